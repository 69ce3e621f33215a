/- A solver that is a call's own; the document's Same, Has, Right, walked. -/
import Derived.Test.YtfpjfogddepbkaaHa15
import Derived.Test.YtfpjfogddepbkaaHa02
import Derived.Test.YtfpjfogddepbkaaHa03
set_option linter.unusedSimpArgs false
set_option linter.unusedVariables false
namespace Go.Proofs.Ytfpjfogddepbkaa
open Go.RowKit Go.Mem Go.Sat
namespace SaW
/-- A solver made since a world: nothing that was there has turned. -/
structure Own (w : World) (R : Nat → Option Role) (w' : World) (p : Nat) (s : St) : Prop where
  sol : SolverAt w' R p s
  frm : Frm (fun _ => False) w w'
  new : ∀ b, R b ≠ none → w.heap.size ≤ b
section
variable {w w1 w2 : World} {R R' : Nat → Option Role} {p : Nat} {s s' : St}
theorem Own.step {T : Role → Prop} (h : Own w R w1 p s) (hS : SolverAt w2 R' p s') (hM : SMov T R w1 R' w2) : Own w R' w2 p s' :=
  ⟨hS, h.frm.trans hM.1 fun x hx ⟨r, hr, _⟩ => by have := h.new x (by rw [hr]; exact fun e => by cases e); omega,
    fun b hb => (hM.2.2 b hb).elim (h.new b) fun e => Nat.le_trans h.frm.size e⟩
theorem Own.frm0 (h : Own w R w1 p s) (hf : Frm (fun _ => False) w1 w2) : Own w R w2 p s := ⟨h.sol.frm0 hf, h.frm.trans hf fun _ _ e => e.elim, h.new⟩
theorem Own.out (h : Own w R w1 p s) {b : Nat} (hb : b < w.heap.size) : R b = none := by
  cases hq : R b with
  | none => rfl
  | some r => have := h.new b (by rw [hq]; exact fun e => by cases e); omega
theorem Own.fresh (h : Own w R w1 p s) {b : Nat} (hb : w1.heap.size ≤ b) : R b = none := by
  obtain ⟨_, _, _, _, _, _, _, _, _, H⟩ := h.sol
  exact none_of H hb
theorem outOf_new {R : Nat → Option Role} {n len cap : Nat} (h : R n = none) : OutOf R (.slice (some ⟨n, 0, none⟩) len cap) := fun g hg => by
  obtain ⟨o, n', c, e⟩ := hg
  cases e
  exact h
theorem outOf_nil {R : Nat → Option Role} : OutOf R (.slice none 0 0) := fun g hg => by
  obtain ⟨o, n', c, e⟩ := hg
  cases e
end
section
variable {w : World}
set_option maxRecDepth 100000 in
set_option maxHeartbeats 1000000 in
theorem same_calls (va vb : Value) (a b : List Int) (hA : Sees w iI va a) (hB : Sees w iI vb b) : Calls Try.prog 11 #[va, vb] w fun e w' => e = .returned (.bool (decide (a = b))) ∧ Frm (fun _ => False) w w' := by
  have hla : a.length ≤ 9223372036854775807 := hA.len
  have hlb : b.length ≤ 9223372036854775807 := hB.len
  obtain ⟨VA, ca, rfl, hca⟩ := sees_slice hA
  obtain ⟨VB, cb, rfl, hcb⟩ := sees_slice hB
  have HA := Lib.hid hA
  have HB := Lib.hid hB
  clear hA hB
  go_enter Try.func11, Try.ntmps11
  by_cases hl : a.length = b.length
  · have e1 : ((a.length : Int) != (b.length : Int)) = false := by simp [hl]
    have HL := Lib.hid hl
    have hcA := Lib.hid hca
    have hcB := Lib.hid hcb
    clear hl hca hcb
    go_wp2_with fail
    go_loopw [5] (fun v5 w' => ∃ j : Nat, v5 = .int .i64 j ∧ j ≤ a.length ∧ Hid (a.take j = b.take j) ∧ Frm (fun _ => False) w w') (fun v5 _ => a.length - (intOf v5).toNat)
    case atStart => exact ⟨0, rfl, by omega, Lib.hid rfl, Frm.refl _ _⟩
    case round =>
      obtain ⟨j, rfl, hj, hT, hF⟩ := hrel
      by_cases hjl : j < a.length
      · have hjI : (j : Int) < (a.length : Int) := by omega
        obtain ⟨x, hx⟩ : ∃ x, a[j]? = some x := ⟨_, List.getElem?_eq_getElem hjl⟩
        obtain ⟨y, hy⟩ : ∃ y, b[j]? = some y := ⟨_, List.getElem?_eq_getElem (by have := HL.out; omega)⟩
        obtain ⟨ga, oa, rfl, xa⟩ := hcA.out j x hx
        obtain ⟨gb, ob, rfl, xb⟩ := hcB.out j y hy
        have ya : wr.cell? ⟨ga, oa + j, none⟩ = some (.int .i64 x) := by
          rw [← xa]; simp only [World.cell?, hF.block ga (World.block_lt_of_cell? _ _ xa) id]
        have yb : wr.cell? ⟨gb, ob + j, none⟩ = some (.int .i64 y) := by
          rw [← xb]; simp only [World.cell?, hF.block gb (World.block_lt_of_cell? _ _ xb) id]
        have hjb : j < b.length := by have := HL.out; omega
        have HX := Lib.hid hx
        have HY := Lib.hid hy
        have HF := Lib.hid hF
        clear hx hy hF xa xb HL
        by_cases hxy : x = y
        · have exy : (x == y) = true := by simpa using hxy
          have HXY := Lib.hid hxy
          clear hxy
          go_wp2_with fail
          go_quiet (fail)
          go_wp2
          go_roundw
          case rel => exact ⟨j + 1, rfl, hjl, Lib.hid (by rw [List.take_add_one, List.take_add_one, hT.out, HX.out, HY.out, HXY.out]), HF.out.drewN _⟩
          case measure => simp only [intOf]; omega
        · have exy : (x == y) = false := by simpa using hxy
          have hne : Hid (decide (a = b) = false) := Lib.hid <| by
            rw [decide_eq_false_iff_not]
            intro e
            have h1 := HX.out
            rw [e, HY.out] at h1
            exact hxy (Option.some.inj h1).symm
          clear hxy
          go_wp2_with fail
          go_quiet (fail)
          go_wp2
          go_ret
          exact ⟨by rw [hne.out]; rfl, HF.out.drewN _⟩
      · have hjI : ¬ (j : Int) < (a.length : Int) := by omega
        have heq : Hid (decide (a = b) = true) := Lib.hid <| by
          rw [decide_eq_true_iff]
          have h1 := hT.out
          rw [List.take_of_length_le (by omega), List.take_of_length_le (by have := HL.out; omega)] at h1
          exact h1
        have HF := Lib.hid hF
        clear hF hT
        go_wp2
        go_ret
        exact ⟨by rw [heq.out]; rfl, HF.out⟩
  · have e1 : ((a.length : Int) != (b.length : Int)) = true := by simp only [bne_iff_ne, ne_eq]; omega
    have hne : Hid (decide (a = b) = false) := Lib.hid <| by
      rw [decide_eq_false_iff_not]
      intro e
      exact hl (by rw [e])
    clear hl hca hcb
    go_wp2
    go_ret
    exact ⟨by rw [hne.out]; rfl, Frm.refl _ _⟩
set_option maxRecDepth 100000 in
set_option maxHeartbeats 1000000 in
theorem rright_calls (n : Int) : Calls Try.prog 40 #[.int .i64 n] w fun e w' => e = .returned (.bool (rightF n)) ∧ w' = w := by
  by_cases h0 : n = 0
  · subst h0
    go_enter Try.func40, Try.ntmps40
    go_wp2
    go_ret
    exact ⟨rfl, rfl⟩
  · have e0 : (n != 0) = true := by simpa using h0
    by_cases h1 : -1048576 ≤ n
    · have e1 : decide (-1048576 ≤ n) = true := by simpa using h1
      have hr : Hid (rightF n = decide (n ≤ 1048576)) := Lib.hid (by unfold rightF; simp [h0, h1])
      clear h0 h1
      go_enter Try.func40, Try.ntmps40
      go_wp2
      go_ret
      exact ⟨by rw [hr.out]; rfl, rfl⟩
    · have e1 : decide (-1048576 ≤ n) = false := by simpa using h1
      have hr : Hid (rightF n = false) := Lib.hid (by unfold rightF; simp [h1])
      clear h0 h1
      go_enter Try.func40, Try.ntmps40
      go_wp2
      go_ret
      exact ⟨by rw [hr.out]; rfl, rfl⟩
set_option maxRecDepth 100000 in
set_option maxHeartbeats 1000000 in
theorem has_calls (va : Value) (a : List Int) (n : Int) (hA : Sees w iI va a) : Calls Try.prog 41 #[va, .int .i64 n] w fun e w' => e = .returned (.bool (decide (n ∈ a))) ∧ w' = w := by
  have hla : a.length ≤ 9223372036854775807 := hA.len
  obtain ⟨VA, ca, rfl, hca⟩ := sees_slice hA
  have hcA := Lib.hid hca
  clear hca hA
  go_enter Try.func41, Try.ntmps41
  go_wp2_with fail
  go_loopw [5] (fun v5 w' => ∃ j : Nat, v5 = .int .i64 j ∧ j ≤ a.length ∧ Hid (n ∉ a.take j) ∧ w' = w) (fun v5 _ => a.length - (intOf v5).toNat)
  case atStart => exact ⟨0, rfl, by omega, Lib.hid (by simp), rfl⟩
  case round =>
    obtain ⟨j, rfl, hj, hT, hF⟩ := hrel
    subst hF
    by_cases hjl : j < a.length
    · have hjI : (j : Int) < (a.length : Int) := by omega
      obtain ⟨x, hx⟩ : ∃ x, a[j]? = some x := ⟨_, List.getElem?_eq_getElem hjl⟩
      obtain ⟨ga, oa, rfl, xa⟩ := hcA.out j x hx
      have ya : wr.cell? ⟨ga, oa + j, none⟩ = some (.int .i64 x) := xa
      have HX := Lib.hid hx
      clear hx xa
      by_cases hxy : x = n
      · have exy : (x == n) = true := by simpa using hxy
        have hm : Hid (decide (n ∈ a) = true) := Lib.hid <| by
          rw [decide_eq_true_iff, ← hxy]
          exact List.mem_of_getElem? HX.out
        clear hxy
        go_wp2
        go_ret
        exact ⟨by rw [hm.out]; rfl, rfl⟩
      · have exy : (x == n) = false := by simpa using hxy
        have hT2 : Hid (n ∉ a.take (j + 1)) := Lib.hid (by
          rw [List.take_add_one, HX.out]
          intro e
          rcases List.mem_append.1 e with e | e
          · exact hT.out e
          · simp at e; exact hxy e.symm)
        clear hxy hT
        go_wp2
        go_roundw
        case rel => exact ⟨j + 1, rfl, hjl, hT2, by trivial⟩
        case measure => simp only [intOf]; omega
    · have hjI : ¬ (j : Int) < (a.length : Int) := by omega
      have hm : Hid (decide (n ∈ a) = false) := Lib.hid <| by
        rw [decide_eq_false_iff_not]
        have h1 := hT.out
        rw [List.take_of_length_le (by omega)] at h1
        exact h1
      clear hT
      go_wp2
      go_ret
      exact ⟨by rw [hm.out]; rfl, rfl⟩
end
end SaW
end Go.Proofs.Ytfpjfogddepbkaa
/- What came in: slices of any make, read; append of all of one onto a row of the call's own. -/
namespace Go.Mem
open Go.RowKit
/-- A slice that came in: an empty one may point anywhere. -/
def SeesW {α : Type} (w : World) (enc : α → Value) (v : Value) (xs : List α) : Prop :=
  ∃ A c, v = .slice A xs.length c ∧ xs.length ≤ maxLen ∧ ∀ (i : Nat) x, xs[i]? = some x → ∃ g o, A = some ⟨g, o, none⟩ ∧ w.cell? ⟨g, o + i, none⟩ = some (enc x)
section
variable {α : Type} {w w' : World} {enc : α → Value} {v : Value} {xs : List α}
theorem SeesW.len (h : SeesW w enc v xs) : xs.length ≤ maxLen := by obtain ⟨_, _, _, h, _⟩ := h; exact h
theorem SeesW.slice (h : SeesW w enc v xs) : ∃ A c, v = .slice A xs.length c ∧ ∀ (i : Nat) x, xs[i]? = some x → ∃ g o, A = some ⟨g, o, none⟩ ∧ w.cell? ⟨g, o + i, none⟩ = some (enc x) := by obtain ⟨A, c, h1, _, h2⟩ := h; exact ⟨A, c, h1, h2⟩
theorem Sees.weak (h : Sees w enc v xs) : SeesW w enc v xs := by
  have hl := h.len
  rcases h with ⟨rfl, rfl⟩ | ⟨g, o, cap, rfl, _, _, hc⟩
  · exact ⟨none, 0, rfl, hl, fun i x hx => by simp at hx⟩
  · exact ⟨_, cap, rfl, hl, fun i x hx => ⟨g, o, rfl, hc i x hx⟩⟩
theorem SeesW.frm0 (h : SeesW w enc v xs) (hf : Frm (fun _ => False) w w') : SeesW w' enc v xs := by
  obtain ⟨A, c, h1, h2, h3⟩ := h
  refine ⟨A, c, h1, h2, fun i x hx => ?_⟩
  obtain ⟨g, o, e, hc⟩ := h3 i x hx
  exact ⟨g, o, e, (World.cell?_of_block (hf.block g (World.block_lt_of_cell? _ _ hc) id)).trans hc⟩
end
section
variable {P : Program} {w : World}
theorem run_append_seesw (t ty e : TypeId) (i : TypeInfo) (z : Value) (bytes : Nat) (ht : P.underlying t = some (.slice e)) (hi : P.info? e = some i) (hz : i.zero = some z)
    (hsize : i.size = 1) (hby : i.bytes = bytes) (hzs : z.cells.size = 1) {α : Type} {enc : α → Value} (h1 : ∀ y, (enc y).oneCell' = true)
    (v : Value) (xs ys : List α) (hrow : Row w e enc v xs) (u : Value) (hs : SeesW w enc u ys) (h63 : xs.length + ys.length ≤ maxLen) (hbytes : (xs.length + ys.length) * bytes ≤ 140737488355328) :
    ∃ v' w', (Builtin.append_ #[t, t] ty #[v, u]).run P w = .ok v' w' ∧ Row w' e enc v' (xs ++ ys) ∧ Frm (fun b => v.ownBlock = some b) w w' ∧ ∀ g, v'.ownBlock = some g → v.ownBlock = some g ∨ g = w.heap.size := by
  obtain ⟨A, c, rfl, hl, hc⟩ := hs
  cases ys with
  | nil =>
    refine ⟨v, w, ?_, by simpa using hrow, Frm.refl _ _, fun g hg => .inl hg⟩
    rcases hrow.2 with ⟨rfl, hl⟩ | ⟨g, cap, cur, rfl, _, _, hnc, _⟩
    · cases A <;> simp [Builtin.append_, run_underlying ht, sizeOf, typeInfo, hi, Builtin.lenOf, Builtin.firstCells, loadCells, loadCellsFrom]
    · cases A <;> simp [Builtin.append_, run_underlying ht, sizeOf, typeInfo, hi, Builtin.lenOf, Builtin.firstCells, hnc, storeCells, loadCells, loadCellsFrom]
  | cons y r =>
    obtain ⟨g, o, rfl, _⟩ := hc 0 y rfl
    obtain ⟨v', w', hrun, h2, h3, _, h5⟩ := run_append_own_at (P := P) (ty := ty) w 0 t e i z 1 bytes ht hi hz hsize hby hzs (by decide) v xs.length (xs.map enc) hrow ⟨g, o, none⟩ (y :: r).length c ((y :: r).map enc) (by simp) (fun j u hj => by
      rw [List.getElem?_map] at hj
      obtain ⟨y', hy, rfl⟩ := Option.map_eq_some_iff.1 hj
      obtain ⟨g', o', e', hcell⟩ := hc j y' hy
      cases e'
      have e : (⟨g, o, none⟩ : Addr).add j = ⟨g, o + j, none⟩ := by simp only [Addr.add]; split <;> simp_all
      rw [e]; exact hcell) (fun u hu => by
      obtain ⟨y, _, rfl⟩ := List.mem_map.1 hu
      exact h1 y) h63 hbytes (Nat.zero_le _)
    refine ⟨v', w', hrun, ?_, Frm.of_grown h3, fun g' hg' => ?_⟩
    · show w'.ownsRow 0 e 1 v' (xs ++ y :: r).length ((xs ++ y :: r).map enc)
      rw [List.length_append, List.map_append]; exact h2
    · rcases h5 with h5 | h5
      · exact .inl (by rw [← h5]; exact hg')
      · rw [h5] at hg'; cases hg'; exact .inr rfl
theorem wpList_append_seesw {ops : Array Oper} {rest : List Oper} {o : Oper} {a : Act} {Q : Exit → Act → World → Prop} (hgd : o.guard = none) (s x : Operand) (t : TypeId)
    (ho : o.op = .call { callee := .builtin .append, args := #[s, x], argTypes := #[t, t] })
    (e : TypeId) (i : TypeInfo) (z : Value) (bytes : Nat) (ht : P.underlying t = some (.slice e)) (hi : P.info? e = some i) (hz : i.zero = some z)
    (hsize : i.size = 1) (hby : i.bytes = bytes) (hzs : z.cells.size = 1) {α : Type} {enc : α → Value} (h1 : ∀ y, (enc y).oneCell' = true)
    (v : Value) (xs ys : List α) (hv : a.eval s = v) (hrow : Row w e enc v xs) (u : Value) (hu : a.eval x = u) (hs : SeesW w enc u ys) (h63 : xs.length + ys.length ≤ maxLen) (hbytes : (xs.length + ys.length) * bytes ≤ 140737488355328)
    (h : ∀ v' w', Row w' e enc v' (xs ++ ys) → Frm (fun b => v.ownBlock = some b) w w' → (∀ g, v'.ownBlock = some g → v.ownBlock = some g ∨ g = w.heap.size) → wpList P ops Q rest (a.put o.dst v') w') : wpList P ops Q (o :: rest) a w := by
  refine wpList_plain hgd fun K hK => ?_
  obtain ⟨v', w', hrun, h2, h3, h4⟩ := run_append_seesw (P := P) t o.type e i z bytes ht hi hz hsize hby hzs h1 v xs ys hrow u hs h63 hbytes
  unfold Oper.wp execOp
  simp only [ho, resolve, invoke, builtin, Sem.run_bind, Sem.run_pure, Result.andThen_ok, List.map_toArray, List.map_cons, List.map_nil, hv, hu, hrun]
  exact hK _ _ (h v' w' h2 h3 h4)
end
end Go.Mem
/- Answers in memory; clauses of clauses; a solver of clauses, walked. -/
namespace Go.Proofs.Ytfpjfogddepbkaa
open Go.RowKit Go.Mem Go.Sat
namespace SaW
theorem row_empty {α : Type} {w : World} {e : TypeId} {enc : α → Value} {g : Nat} (h : w.heap[g]? = some (.cells #[] e (0, 0))) : Row w e enc (.slice (some ⟨g, 0, none⟩) 0 0) ([] : List α) := ⟨by simp, .inr ⟨g, 0, #[], rfl, Nat.zero_le _, h, Nat.zero_le _, Nat.zero_le _, by simp, by simp⟩⟩
/-- An answer that lies in a variable of the call's own. -/
structure AnsAt (R : Nat → Option Role) (w : World) (b : Nat) (vm vc : Value) (a : Ans) : Prop where
  blk : w.heap[b]? = some (.cells #[.bool a.sat, vm, vc] 30)
  model : Row w 3 iI vm a.model
  core : Row w 3 iI vc a.core
  out : R b = none
  outs : ∀ g, vm.ownBlock = some g ∨ vc.ownBlock = some g → R g = none
/-- A list of lists that came in. -/
def SeesL (w : World) (v : Value) (l : List (List Int)) : Prop := ∃ vs : List Value, SeesW w id v vs ∧ vs.length = l.length ∧ ∀ (i : Nat) (u : Value) (c : List Int), vs[i]? = some u → l[i]? = some c → SeesW w iI u c
theorem SeesL.frm0 {w w' : World} {v : Value} {l : List (List Int)} (h : SeesL w v l) (hf : Frm (fun _ => False) w w') : SeesL w' v l := by
  obtain ⟨vs, h1, h2, h3⟩ := h
  exact ⟨vs, h1.frm0 hf, h2, fun i u c hu hc => (h3 i u c hu hc).frm0 hf⟩
theorem SeesL.len {w : World} {v : Value} {l : List (List Int)} (h : SeesL w v l) : l.length ≤ maxLen := by
  obtain ⟨vs, h1, h2, _⟩ := h
  rw [← h2]; exact h1.len
theorem SeesL.slice {w : World} {v : Value} {l : List (List Int)} (h : SeesL w v l) : ∃ A c, v = .slice A l.length c ∧ ∀ i x, l[i]? = some x → ∃ g o u, A = some ⟨g, o, none⟩ ∧ w.cell? ⟨g, o + i, none⟩ = some u ∧ SeesW w iI u x := by
  obtain ⟨vs, h1, h2, h3⟩ := h
  obtain ⟨A, c, e, hc⟩ := h1.slice
  refine ⟨A, c, by rw [e, h2], fun i x hx => ?_⟩
  obtain ⟨u, hu⟩ : ∃ u, vs[i]? = some u := ⟨_, List.getElem?_eq_getElem (by rw [h2]; exact (List.getElem?_eq_some_iff.1 hx).1)⟩
  obtain ⟨g, o, h4, h5⟩ := hc i u hu
  exact ⟨g, o, u, h4, h5, h3 i u x hu hx⟩
theorem SeesL.of_blk {w : World} {b : Nat} {us : List Value} {t : TypeId} {z : Nat × Nat} {l : List (List Int)} (h : w.heap[b]? = some (.cells us.toArray t z)) (hn : us.length = l.length) (hm : l.length ≤ maxLen) (hs : ∀ (i : Nat) (u : Value) (c : List Int), us[i]? = some u → l[i]? = some c → SeesW w iI u c) : SeesL w (.slice (some ⟨b, 0, none⟩) l.length l.length) l :=
  ⟨us, by rw [← hn]; exact (sees_of_blk h (by simp) rfl (by omega)).weak, hn, hs⟩
section
variable {w w1 w2 w' : World} {R R' : Nat → Option Role} {p : Nat} {s s' : St}
theorem Row.keep {T : Role → Prop} {α : Type} {e : TypeId} {enc : α → Value} {v : Value} {l : List α} (h : Row w e enc v l) (ho : ∀ g, v.ownBlock = some g → R g = none) (hM : SMov T R w R' w') : Row w' e enc v l :=
  h.frm hM.1 fun g hg ⟨r, hr, _⟩ => by rw [ho g hg] at hr; cases hr
theorem AnsAt.step {T : Role → Prop} {b : Nat} {vm vc : Value} {a : Ans} (h : AnsAt R w b vm vc a) (hM : SMov T R w R' w') : AnsAt R' w' b vm vc a :=
  ⟨(hM.1.block b (lt_of_block h.blk) fun ⟨r, hr, _⟩ => by rw [h.out] at hr; cases hr).trans h.blk, Row.keep h.model (fun g hg => h.outs g (.inl hg)) hM, Row.keep h.core (fun g hg => h.outs g (.inr hg)) hM, hM.out (lt_of_block h.blk) h.out,
    fun g hg => hM.out (hg.elim (h.model.lt g) (h.core.lt g)) (h.outs g hg)⟩
theorem AnsAt.frm0 {b : Nat} {vm vc : Value} {a : Ans} (h : AnsAt R w b vm vc a) (hf : Frm (fun _ => False) w w') : AnsAt R w' b vm vc a := h.step (T := AnyT) (SMov.of0 hf)
theorem Own.base {w0 : World} (h : Own w R w1 p s) (hf : Frm (fun _ => False) w0 w) : Own w0 R w1 p s := ⟨h.sol, hf.trans h.frm fun _ _ e => e.elim, fun b hb => Nat.le_trans hf.size (h.new b hb)⟩
/-- What Solve handed back, laid into a variable. -/
theorem Own.ans {vm vc : Value} {a : Ans} (h : Own w R w1 p s) (hS : SolverAt w2 R' p s') (hM : SMov AnyT R w1 R' w2) (rm : Row w2 3 iI vm a.model) (rc : Row w2 3 iI vc a.core) (ho : ∀ g, vm.ownBlock = some g ∨ vc.ownBlock = some g → R' g = none) :
    Own w R' (w2.alloc (.cells #[.bool a.sat, vm, vc] 30)) p s' ∧ AnsAt R' (w2.alloc (.cells #[.bool a.sat, vm, vc] 30)) w2.heap.size vm vc a := by
  have h2 := h.step hS hM
  have hf := frm_alloc w2 (.cells #[.bool a.sat, vm, vc] 30)
  exact ⟨h2.frm0 hf, ⟨blk_new _, rm.frm hf fun _ _ => id, rc.frm hf fun _ _ => id, h2.fresh (Nat.le_refl _), ho⟩⟩
theorem of_mono {l : List (List Int)} {j : Nat} {c : List Int} {fuel : Nat} {sj : St} (hc : l[j]? = some c) (hs : addsF fuel sj (l.drop j) = some s') : ∃ s1, addF fuel sj c = some s1 ∧ addsF fuel s1 (l.drop (j + 1)) = some s' := by
  have hj := (List.getElem?_eq_some_iff.1 hc).1
  rw [List.drop_eq_getElem_cons hj, Option.some.inj ((List.getElem?_eq_getElem hj).symm.trans hc)] at hs
  exact Option.bind_eq_some_iff.1 hs
set_option maxRecDepth 100000 in
set_option maxHeartbeats 2000000 in
theorem made_calls (va : Value) (l : List (List Int)) (hA : SeesL w va l) (hc : ∀ c ∈ l, checkF c = true ∧ c.length ≤ 1099511627776) (fuel : Nat) (hs : addsF fuel Sat.new l = some s) : Calls Try.prog 15 #[va] w fun e w' => ∃ p R, e = .returned (.pointer (some ⟨p, 0, none⟩)) ∧ Own w R w' p s := by
  obtain ⟨i0, hi, hz0, hz1, hz2⟩ := info_parts info_int
  have hla : l.length ≤ 9223372036854775807 := hA.len
  obtain ⟨VA, ca, rfl, hca⟩ := hA.slice
  have HA := Lib.hid hA
  have HS := Lib.hid hs
  have HC := Lib.hid hc
  have HN := Lib.hid (new_calls w)
  clear hA hs hc hca
  go_enter Try.func15, Try.ntmps15
  go_wp2_with fail
  refine HN.out.mono ?_
  rintro e w1 ⟨p, R, rfl, hS, hF, hnew⟩
  dsimp only
  have HO := Lib.hid (show Own w R w1 p Sat.new from ⟨hS, hF, hnew⟩)
  clear hS hF hnew HN
  go_wp2_with fail
  go_loopw [4] (fun v4 w' => ∃ j : Nat, v4 = .int .i64 j ∧ j ≤ l.length ∧ ∃ sj Rj, Hid (addsF fuel sj (l.drop j) = some s) ∧ Hid (Own w Rj w' p sj)) (fun v4 _ => l.length - (intOf v4).toNat)
  case atStart => exact ⟨0, rfl, by omega, _, R, HS, HO⟩
  case round =>
    obtain ⟨j, rfl, hj, sj, Rj, HG, HOj⟩ := hrel
    clear HO
    by_cases hjl : j < l.length
    · have hjI : (j : Int) < (l.length : Int) := by omega
      obtain ⟨c, hcc⟩ : ∃ c, l[j]? = some c := ⟨_, List.getElem?_eq_getElem hjl⟩
      obtain ⟨s1, had, hres⟩ := of_mono hcc HG.out
      obtain ⟨VA', ca', e1, hat⟩ := (HA.out.frm0 HOj.out.frm).slice
      obtain ⟨g, o, u, h1, xj, hu⟩ := hat j c hcc
      cases e1
      subst h1
      obtain ⟨UA, uc, rfl, _⟩ := hu.slice
      obtain ⟨hck, hcl⟩ := HC.out c (List.mem_of_getElem? hcc)
      have HAD := Lib.hid had
      have HR := Lib.hid hres
      have HU := Lib.hid hu
      have HCK := Lib.hid hck
      have HCL := Lib.hid hcl
      clear hcc had hres hu hck hcl hat HG
      have HE := Lib.hid (row_empty (enc := iI) (blk_new (w := wr) (.cells #[] 3)))
      have xj2 : (wr.alloc (.cells #[] 3)).cell? ⟨g, o + j, none⟩ = some (.slice UA c.length uc) := (World.cell?_of_block ((frm_alloc wr _).block g (World.block_lt_of_cell? _ _ xj) id)).trans xj
      clear xj
      go_wp2_with (first | (at_builtin; refine wpList_append_seesw rfl _ _ 26 rfl 3 i0 (.int .i64 0) 8 Try.underlying26 hi hz0 hz1 hz2 rfl (enc := iI) (fun _ => rfl) (.slice (some ⟨wr.heap.size, 0, none⟩) 0 0) [] c rfl HE.out (.slice UA c.length uc) rfl (HU.out.frm0 (frm_alloc _ _)) ?c1 ?c2 ?_) | fail)
      case c1 => have := HCL.out; have : maxLen = 9223372036854775807 := rfl; simp; omega
      case c2 => have := HCL.out; simp; omega
      intro v9 w9 hr9 hf9 hg9
      have hfx : Frm (fun _ => False) wr w9 := (frm_alloc wr (.cells #[] 3)).trans hf9 fun b hb e => by simp [Value.ownBlock] at e; omega
      have HO9 := Lib.hid (HOj.out.frm0 hfx)
      have HAC := Lib.hid (add_calls HO9.out.sol v9 c hr9.sees (fun g hg => by
        obtain ⟨o', n', c', e⟩ := hg
        refine HOj.out.fresh ?_
        subst e
        rcases hg9 g rfl with e | e
        · cases e; exact Nat.le_refl _
        · rw [e]; omega) HCL.out HCK.out fuel HAD.out)
      clear hr9 hf9 hg9 hfx HE HOj xj2 HU
      go_wp2_with fail
      refine HAC.out.mono ?_
      rintro e w10 ⟨rfl, R10, HS10, HM10⟩
      have HO10 := Lib.hid (HO9.out.step HS10 HM10)
      clear HS10 HM10 HO9 HAC
      dsimp only
      go_wp2
      go_roundw
      case rel => exact ⟨j + 1, rfl, hjl, s1, R10, HR, HO10⟩
      case measure => simp only [intOf]; omega
    · have hjI : ¬ (j : Int) < (l.length : Int) := by omega
      have e := HG.out
      rw [List.drop_eq_nil_of_le (by omega)] at e
      cases e
      clear HG
      go_wp2
      go_ret
      exact ⟨p, rfl, Rj, HOj.out⟩
end
end SaW
end Go.Proofs.Ytfpjfogddepbkaa
/- The law's own functions, walked: awake. -/
namespace Go.Proofs.Ytfpjfogddepbkaa
open Go.RowKit Go.Mem Go.Sat
namespace SaW
def AW : List (List Int) := [[1, 2], [-1, 2], [1, -2]]
def K1 : St := (addsF 20 Sat.new AW).getD Sat.new
def K2 : St := ((solveF 20 K1 0 []).getD ((noAns, 0), Sat.new)).2
def K3 : St := ((solveF 20 K2 0 [-2]).getD ((noAns, 0), Sat.new)).2
def K4 : St := (addF 20 K3 [-1, -2]).getD Sat.new
def K5 : St := ((solveF 20 K4 0 []).getD ((noAns, 0), Sat.new)).2
theorem K1_eq : addsF 20 Sat.new AW = some K1 := by kernel_rfl
theorem K2_eq : solveF 20 K1 0 [] = some ((⟨true, [1, 2], []⟩, 0), K2) := by kernel_rfl
theorem K3_eq : solveF 20 K2 0 [-2] = some ((⟨false, [], [-2]⟩, 0), K3) := by kernel_rfl
theorem K4_eq : addF 20 K3 [-1, -2] = some K4 := by kernel_rfl
theorem K5_eq : solveF 20 K4 0 [] = some ((⟨false, [], []⟩, 0), K5) := by kernel_rfl
theorem K5_vars : K5.vars.length = 3 := by kernel_rfl
theorem aw_ok : ∀ c ∈ AW, checkF c = true ∧ c.length ≤ 1099511627776 := by
  intro c hc
  simp [AW] at hc
  rcases hc with rfl | rfl | rfl <;> exact ⟨rfl, by simp⟩
theorem sees_nil {α : Type} (w : World) (enc : α → Value) : Sees w enc (.slice none 0 0) ([] : List α) := .inl ⟨rfl, rfl⟩
theorem sees_two {w : World} {b : Nat} {x y : Int} {t : TypeId} {z : Nat × Nat} (h : w.heap[b]? = some (.cells #[.int .i64 x, .int .i64 y] t z)) : Sees w iI (.slice (some ⟨b, 0, none⟩) 2 2) [x, y] := sees_of_blk h rfl rfl (by decide)
theorem sees_one {w : World} {b : Nat} {x : Int} {t : TypeId} {z : Nat × Nat} (h : w.heap[b]? = some (.cells #[.int .i64 x] t z)) : Sees w iI (.slice (some ⟨b, 0, none⟩) 1 1) [x] := sees_of_blk h rfl rfl (by decide)
theorem same_eq {w : World} (va vb : Value) (a : List Int) (hA : Sees w iI va a) (hB : Sees w iI vb a) : Calls Try.prog 11 #[va, vb] w fun e w' => e = .returned (.bool true) ∧ Frm (fun _ => False) w w' :=
  (same_calls va vb a a hA hB).mono fun e w' h => ⟨h.1.trans (by simp), h.2⟩
set_option maxRecDepth 100000 in
set_option maxHeartbeats 4000000 in
theorem awake_calls (w : World) : Calls Try.prog 8 #[] w fun e w' => e = .returned (.bool true) ∧ Frm (fun _ => False) w w' := by
  obtain ⟨w4, hw4⟩ : ∃ w4, w4 = (((w.alloc (.cells #[.int .i64 1, .int .i64 2] 3)).alloc (.cells #[.int .i64 (-1), .int .i64 2] 3)).alloc (.cells #[.int .i64 1, .int .i64 (-2)] 3)).alloc (.cells #[.slice (some ⟨w.heap.size, 0, none⟩) 2 2, .slice (some ⟨w.heap.size + 1, 0, none⟩) 2 2, .slice (some ⟨w.heap.size + 2, 0, none⟩) 2 2] 26) := ⟨_, rfl⟩
  have hf4 : Frm (fun _ => False) w w4 := by rw [hw4]; exact (((frm_alloc w _).alloc _).alloc _).alloc _
  have hb0 : w4.heap[w.heap.size]? = some (.cells #[.int .i64 1, .int .i64 2] 3) := by rw [hw4]; exact blk_alloc (blk_alloc (blk_alloc (blk_new _) _) _) _
  have hb1 : w4.heap[w.heap.size + 1]? = some (.cells #[.int .i64 (-1), .int .i64 2] 3) := by rw [hw4]; exact blk_alloc (blk_alloc (blk_new_at _ (by simp)) _) _
  have hb2 : w4.heap[w.heap.size + 2]? = some (.cells #[.int .i64 1, .int .i64 (-2)] 3) := by rw [hw4]; exact blk_alloc (blk_new_at _ (by simp)) _
  have hb3 : w4.heap[w.heap.size + 3]? = some (.cells #[.slice (some ⟨w.heap.size, 0, none⟩) 2 2, .slice (some ⟨w.heap.size + 1, 0, none⟩) 2 2, .slice (some ⟨w.heap.size + 2, 0, none⟩) 2 2] 26) := by rw [hw4]; exact blk_new_at _ (by simp)
  have hsl : SeesL w4 (.slice (some ⟨w.heap.size + 3, 0, none⟩) 3 3) AW := SeesL.of_blk (us := [_, _, _]) (l := AW) hb3 rfl (by decide) fun i u c hu hc => by
    match i with
    | 0 => cases hu; cases hc; exact (sees_two hb0).weak
    | 1 => cases hu; cases hc; exact (sees_two hb1).weak
    | 2 => cases hu; cases hc; exact (sees_two hb2).weak
    | i + 3 => simp at hu
  have HM := Lib.hid (made_calls (w := w4) _ AW hsl aw_ok 20 K1_eq)
  have HF4 := Lib.hid hf4
  rw [hw4] at HM
  have HW4 := Lib.hid hw4
  clear hw4 hf4 hb0 hb1 hb2 hb3 hsl
  go_enter Try.func8, Try.ntmps8
  go_wp2_with fail
  refine HM.out.mono ?_
  rintro e w5 ⟨p, R5, rfl, hO⟩
  rw [← HW4.out] at hO
  have HO := Lib.hid (hO.base HF4.out)
  have HS1 := Lib.hid (solve_calls hO.sol (.slice none 0 0) [] (sees_nil _ _) outOf_nil (by decide) rfl 20 0 _ _ K2_eq)
  clear hO HM HW4 HF4
  dsimp only
  go_wp2_with fail
  refine HS1.out.mono ?_
  rintro e w6 ⟨vm1, vc1, R6, rfl, rm, rc, ho, hS, hM⟩
  obtain ⟨h1, h2⟩ := HO.out.ans hS hM rm rc fun g hg => (ho g hg).1
  have HO6 := Lib.hid h1
  have HA6 := Lib.hid h2
  obtain ⟨MA, mc, rfl, _⟩ := sees_slice rm.sees
  obtain ⟨CA, cc, rfl, _⟩ := sees_slice rc.sees
  clear rm rc ho hS hM h1 h2 HO HS1
  obtain ⟨w7, hw7⟩ : ∃ w7, w7 = w6.alloc (.cells #[.bool true, .slice MA 2 mc, .slice CA 0 cc] 30) := ⟨_, rfl⟩
  have HO7 := Lib.hid (show Own w R6 w7 p K2 from hw7 ▸ HO6.out)
  have HA7 := Lib.hid (show AnsAt R6 w7 w6.heap.size (.slice MA 2 mc) (.slice CA 0 cc) ⟨true, [1, 2], []⟩ from hw7 ▸ HA6.out)
  have hf8 := frm_alloc w7 (.cells #[.int .i64 (-2)] 3)
  have HO8 := Lib.hid (HO7.out.frm0 hf8)
  have HA8 := Lib.hid (HA7.out.frm0 hf8)
  have HS2 := Lib.hid (solve_calls HO8.out.sol (.slice (some ⟨w7.heap.size, 0, none⟩) 1 1) [-2] (sees_one (blk_new _)) (outOf_new (HO7.out.fresh (Nat.le_refl _))) (by decide) rfl 20 0 _ _ K3_eq)
  have hz7 : w7.heap.size = w6.heap.size + 1 := by rw [hw7]; simp
  rw [hz7] at HS2
  rw [hw7] at HS2 HO8 HA8
  clear hf8 HO7 HA7 HO6 HA6 hw7 hz7
  dsimp only
  go_wp2_with fail
  refine HS2.out.mono ?_
  rintro e w9 ⟨vm2, vc2, R9, rfl, rm, rc, ho, hS, hM⟩
  obtain ⟨h1, h2⟩ := HO8.out.ans hS hM rm rc fun g hg => (ho g hg).1
  obtain ⟨MB, mb, rfl, _⟩ := sees_slice rm.sees
  obtain ⟨CB, cb, rfl, _⟩ := sees_slice rc.sees
  have h3 := (HA8.out.step hM).frm0 (frm_alloc w9 (.cells #[.bool false, .slice MB 0 mb, .slice CB 1 cb] 30))
  obtain ⟨w10, hw10⟩ : ∃ w10, w10 = w9.alloc (.cells #[.bool false, .slice MB 0 mb, .slice CB 1 cb] 30) := ⟨_, rfl⟩
  have HO10 := Lib.hid (show Own w R9 w10 p K3 from hw10 ▸ h1)
  have HA10 := Lib.hid (show AnsAt R9 w10 w9.heap.size (.slice MB 0 mb) (.slice CB 1 cb) ⟨false, [], [-2]⟩ from hw10 ▸ h2)
  have HB10 := Lib.hid (show AnsAt R9 w10 w6.heap.size (.slice MA 2 mc) (.slice CA 0 cc) ⟨true, [1, 2], []⟩ from hw10 ▸ h3)
  have hf11 := frm_alloc w10 (.cells #[.int .i64 (-1), .int .i64 (-2)] 3)
  have HO11 := Lib.hid (HO10.out.frm0 hf11)
  have HA11 := Lib.hid (HA10.out.frm0 hf11)
  have HB11 := Lib.hid (HB10.out.frm0 hf11)
  have HAD := Lib.hid (add_calls HO11.out.sol (.slice (some ⟨w10.heap.size, 0, none⟩) 2 2) [-1, -2] (sees_two (blk_new _)) (outOf_new (HO10.out.fresh (Nat.le_refl _))) (by decide) rfl 20 K4_eq)
  have hz10 : w10.heap.size = w9.heap.size + 1 := by rw [hw10]; simp
  rw [hz10] at HAD
  rw [hw10] at HAD HO11 HA11 HB11
  clear hf11 HO10 HA10 HB10 hw10 hz10 rm rc ho hS hM h1 h2 h3 HO8 HA8 HS2
  dsimp only
  go_wp2_with fail
  refine HAD.out.mono ?_
  rintro e w12 ⟨rfl, R12, hS, hM⟩
  have HO12 := Lib.hid (HO11.out.step hS hM)
  have HA12 := Lib.hid (HA11.out.step hM)
  have HB12 := Lib.hid (HB11.out.step hM)
  have HS3 := Lib.hid (solve_calls HO12.out.sol (.slice none 0 0) [] (sees_nil _ _) outOf_nil (by decide) rfl 20 0 _ _ K5_eq)
  clear hS hM HO11 HA11 HB11 HAD
  dsimp only
  go_wp2_with fail
  refine HS3.out.mono ?_
  rintro e w13 ⟨vm3, vc3, R13, rfl, rm, rc, ho, hS, hM⟩
  obtain ⟨h1, h2⟩ := HO12.out.ans hS hM rm rc fun g hg => (ho g hg).1
  obtain ⟨MC, ma, rfl, _⟩ := sees_slice rm.sees
  obtain ⟨CC, ca, rfl, _⟩ := sees_slice rc.sees
  obtain ⟨w14, hw14⟩ : ∃ w14, w14 = w13.alloc (.cells #[.bool false, .slice MC 0 ma, .slice CC 0 ca] 30) := ⟨_, rfl⟩
  have h3 := (HA12.out.step hM).frm0 (frm_alloc w13 (.cells #[.bool false, .slice MC 0 ma, .slice CC 0 ca] 30))
  have h4 := (HB12.out.step hM).frm0 (frm_alloc w13 (.cells #[.bool false, .slice MC 0 ma, .slice CC 0 ca] 30))
  have HO14 := Lib.hid (show Own w R13 w14 p K5 from hw14 ▸ h1)
  have HC14 := Lib.hid (show AnsAt R13 w14 w13.heap.size (.slice MC 0 ma) (.slice CC 0 ca) ⟨false, [], []⟩ from hw14 ▸ h2)
  have HA14 := Lib.hid (show AnsAt R13 w14 w9.heap.size (.slice MB 0 mb) (.slice CB 1 cb) ⟨false, [], [-2]⟩ from hw14 ▸ h3)
  have HB14 := Lib.hid (show AnsAt R13 w14 w6.heap.size (.slice MA 2 mc) (.slice CA 0 cc) ⟨true, [1, 2], []⟩ from hw14 ▸ h4)
  clear rm rc ho hS hM h1 h2 h3 h4 HO12 HA12 HB12 HS3
  have x1 : w14.cell? ⟨w6.heap.size, 0, none⟩ = some (.bool true) := blk_cell HB14.out.blk 0
  have x2 : w14.cell? ⟨w6.heap.size, 1, none⟩ = some (.slice MA 2 mc) := blk_cell HB14.out.blk 1
  have hf15 := frm_alloc w14 (.cells #[.int .i64 1, .int .i64 2] 3)
  have HO15 := Lib.hid (HO14.out.frm0 hf15)
  have HA15 := Lib.hid (HA14.out.frm0 hf15)
  have HC15 := Lib.hid (HC14.out.frm0 hf15)
  have HSM := Lib.hid (same_eq (.slice MA 2 mc) (.slice (some ⟨w14.heap.size, 0, none⟩) 2 2) [1, 2] (HB14.out.frm0 hf15).model.sees (sees_two (blk_new _)))
  have hz14 : w14.heap.size = w13.heap.size + 1 := by rw [hw14]; simp
  rw [hz14] at HSM
  rw [hw14] at HSM HO15 HA15 HC15 x1 x2
  clear hf15 HO14 HA14 HC14 HB14 hw14 hz14
  dsimp only
  go_wp2_with fail
  refine HSM.out.mono ?_
  rintro e w16 ⟨rfl, hf⟩
  have HO16 := Lib.hid (HO15.out.frm0 hf)
  have HA16 := Lib.hid (HA15.out.frm0 hf)
  have HC16 := Lib.hid (HC15.out.frm0 hf)
  clear hf HO15 HA15 HC15 x1 x2 HSM
  have x1 : w16.cell? ⟨w9.heap.size, 0, none⟩ = some (.bool false) := blk_cell HA16.out.blk 0
  have x2 : w16.cell? ⟨w9.heap.size, 2, none⟩ = some (.slice CB 1 cb) := blk_cell HA16.out.blk 2
  have hf17 := frm_alloc w16 (.cells #[.int .i64 (-2)] 3)
  have HO17 := Lib.hid (HO16.out.frm0 hf17)
  have HC17 := Lib.hid (HC16.out.frm0 hf17)
  have HSM := Lib.hid (same_eq (.slice CB 1 cb) (.slice (some ⟨w16.heap.size, 0, none⟩) 1 1) [-2] (HA16.out.frm0 hf17).core.sees (sees_one (blk_new _)))
  clear hf17 HO16 HA16 HC16
  dsimp only
  go_wp2_with fail
  refine HSM.out.mono ?_
  rintro e w18 ⟨rfl, hf⟩
  have HO18 := Lib.hid (HO17.out.frm0 hf)
  have HC18 := Lib.hid (HC17.out.frm0 hf)
  clear hf HO17 HC17 x1 x2 HSM
  have x1 : w18.cell? ⟨w13.heap.size, 0, none⟩ = some (.bool false) := blk_cell HC18.out.blk 0
  have x2 : w18.cell? ⟨w13.heap.size, 2, none⟩ = some (.slice CC 0 ca) := blk_cell HC18.out.blk 2
  have HV := Lib.hid (vars_calls HO18.out.sol)
  rw [K5_vars] at HV
  dsimp only
  go_wp2_with fail
  refine HV.out.mono ?_
  rintro e w19 ⟨rfl, hf⟩
  have HO19 := Lib.hid (HO18.out.frm0 hf)
  have HAD := Lib.hid (add_bad (p := p) (w := w19.alloc (.cells #[.int .i64 0] 3)) (.slice (some ⟨w19.heap.size, 0, none⟩) 1 1) [0] (sees_one (blk_new _)) rfl)
  clear hf HO18 HC18 x1 x2 HV
  dsimp only
  go_wp2_with fail
  refine HAD.out.mono ?_
  rintro e w20 ⟨rfl, hf⟩
  have HF := Lib.hid ((HO19.out.frm.alloc _).trans hf fun _ _ e => e.elim)
  clear hf HO19 HAD
  dsimp only
  go_wp2
  go_ret
  exact ⟨rfl, HF.out⟩
end SaW
end Go.Proofs.Ytfpjfogddepbkaa
/- Pigeons and holes: the clauses, what the model answers, the closure. -/
namespace Go.Proofs.Ytfpjfogddepbkaa
open Go.RowKit Go.Mem Go.Sat
namespace SaW
/-- A pigeon in a hole. -/
def atF (k p h : Nat) : Int := ((p * (k - 1) + h + 1 : Nat) : Int)
def remQ (k p h q : Nat) : List (List Int) := (List.range' q (p - q)).map fun q => [-atF k p h, -atF k q h]
def remH (k p h : Nat) : List (List Int) := (List.range' h (k - 1 - h)).flatMap fun h => remQ k p h 0
def rowF (k p h : Nat) : List Int := (List.range h).map (atF k p)
def remP (k p : Nat) : List (List Int) := (List.range' p (k - p)).flatMap fun p => remH k p 0 ++ [rowF k p (k - 1)]
theorem range_step {a b : Nat} (h : a < b) : List.range' a (b - a) = a :: List.range' (a + 1) (b - (a + 1)) := by
  obtain ⟨m, hm⟩ : ∃ m, b - a = m + 1 := ⟨b - a - 1, by omega⟩
  have hm2 : b - (a + 1) = m := by omega
  rw [hm, hm2, List.range'_succ]
theorem range_done {a b : Nat} (h : b ≤ a) : List.range' a (b - a) = [] := by
  have : b - a = 0 := by omega
  rw [this]; rfl
theorem remQ_step {k p h q : Nat} (hq : q < p) : remQ k p h q = [-atF k p h, -atF k q h] :: remQ k p h (q + 1) := by
  unfold remQ; rw [range_step hq, List.map_cons]
theorem remQ_done {k p h : Nat} : remQ k p h p = [] := by
  unfold remQ; rw [range_done (Nat.le_refl _)]; rfl
theorem remH_step {k p h : Nat} (hh : h < k - 1) : remH k p h = remQ k p h 0 ++ remH k p (h + 1) := by
  unfold remH; rw [range_step hh, List.flatMap_cons]
theorem remH_done {k p h : Nat} (hh : k - 1 ≤ h) : remH k p h = [] := by
  unfold remH; rw [range_done hh]; rfl
theorem remP_step {k p : Nat} (hp : p < k) : remP k p = remH k p 0 ++ ([rowF k p (k - 1)] ++ remP k (p + 1)) := by
  unfold remP; rw [range_step hp, List.flatMap_cons, List.append_assoc]
theorem remP_done {k p : Nat} (hp : k ≤ p) : remP k p = [] := by
  unfold remP; rw [range_done hp]; rfl
theorem rowF_succ (k p h : Nat) : rowF k p (h + 1) = rowF k p h ++ [atF k p h] := by
  unfold rowF; rw [List.range_succ, List.map_append]; rfl
theorem adds_cons {fuel : Nat} {s s' : St} {c : List Int} {r : List (List Int)} (h : addsF fuel s (c :: r) = some s') : ∃ s1, addF fuel s c = some s1 ∧ addsF fuel s1 r = some s' := Option.bind_eq_some_iff.1 h
def chk (k : Nat) : Bool :=
  match addsF 100 Sat.new (remP k 0) with
  | none => false
  | some s =>
    match solveF 100 s 0 [] with
    | some ((a, e), _) => !a.sat && a.model.isEmpty && a.core.isEmpty && decide (e = 0)
    | none => false
theorem chk_run {k : Nat} (h : chk k = true) : ∃ s s', addsF 100 Sat.new (remP k 0) = some s ∧ solveF 100 s 0 [] = some ((⟨false, [], []⟩, 0), s') := by
  unfold chk at h
  split at h
  · cases h
  · rename_i s hs
    split at h
    · rename_i a e s' hv
      simp at h
      obtain ⟨⟨⟨h1, h2⟩, h3⟩, h4⟩ := h
      obtain ⟨x, y, z⟩ := a
      simp only at h1 h2 h3
      subst h1 h2 h3 h4
      exact ⟨s, s', hs, hv⟩
    · cases h
theorem chk2 : chk 2 = true := by kernel_rfl
theorem chk3 : chk 3 = true := by kernel_rfl
theorem chk4 : chk 4 = true := by kernel_rfl
theorem chk5 : chk 5 = true := by kernel_rfl
theorem holes_run (k : Nat) (h1 : 2 ≤ k) (h2 : k ≤ 5) : ∃ s s', addsF 100 Sat.new (remP k 0) = some s ∧ solveF 100 s 0 [] = some ((⟨false, [], []⟩, 0), s') := by
  refine chk_run ?_
  have : k = 2 ∨ k = 3 ∨ k = 4 ∨ k = 5 := by omega
  rcases this with rfl | rfl | rfl | rfl
  · exact chk2
  · exact chk3
  · exact chk4
  · exact chk5
theorem atF_bound {k p h : Nat} (hk : k ≤ 5) (hp : p < k) (hh : h < k - 1) : 1 ≤ p * (k - 1) + h + 1 ∧ p * (k - 1) + h + 1 ≤ 20 := by
  have h1 : p * (k - 1) ≤ 4 * 4 := Nat.mul_le_mul (by omega) (by omega)
  omega
set_option maxRecDepth 100000 in
theorem at_calls (w : World) (b k p h : Nat) (hk : k ≤ 5) (hk2 : 2 ≤ k) (hp : p < k) (hh : h < k - 1) (hc : w.cell? ⟨b, 0, none⟩ = some (.int .i64 k)) :
    Calls Try.prog 18 #[.int .i64 p, .int .i64 h, .pointer (some ⟨b, 0, none⟩)] w fun e w' => e = .returned (.int .i64 (atF k p h)) ∧ w' = w := by
  obtain ⟨m, rfl⟩ : ∃ m, k = m + 1 := ⟨k - 1, by omega⟩
  have hb := atF_bound hk hp hh
  have hpm : p * m + h + 1 ≤ 20 := by simpa using hb.2
  have he : Hid (wrap64 (wrap64 (wrap64 ((p : Int) * (m : Int)) + (h : Int)) + 1) = ((p * m + h + 1 : Nat) : Int)) := Lib.hid (by
    rw [← Int.natCast_mul]
    generalize p * m = z at *
    unfold wrap64; omega)
  have ha : atF (m + 1) p h = ((p * m + h + 1 : Nat) : Int) := rfl
  rw [ha]
  clear ha hb hpm
  go_enter Try.func18, Try.ntmps18
  go_wp2
  go_ret
  exact ⟨by rw [← he.out]; rfl, rfl⟩
end SaW
end Go.Proofs.Ytfpjfogddepbkaa
