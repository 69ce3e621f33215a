/- Ranging over a map that the call made: the keys that are still to come, in whatever order. -/
import Derived.Test.YtjajpdmmoiiojaaMem
import Derived.Maps.RangeWalk
namespace Go.Mem
open Go.RowKit
open Go.ChangeMaps (setBlock)

def leftL (es : List MapEntry) (sn : Array Nat) : List MapEntry := es.filter fun e => !sn.contains e.born
/-- Block it is an iterator over the map in block r; these keys are still to come. -/
def Ranging {K V : Type} (w : World) (r it : Nat) (enc : K → Value) (ev : V → Value) (left : List K) : Prop :=
  ∃ es c since sn c0, ∃ m : List (K × V), w.heap[r]? = some (.map es c) ∧ es.toList.map (fun e => (e.key, e.val)) = m.map (fun p => (enc p.1, ev p.2)) ∧ (∀ e ∈ es.toList, e.born < since) ∧ (es.toList.map (·.born)).Nodup ∧
    w.heap[it]? = some (.mapIter (some r) since sn c0) ∧ since ≤ c0 ∧ (leftL es.toList sn).map (·.key) = left.map enc ∧ since ≤ c

theorem Ranging.frm {K V : Type} {S : Nat → Prop} {w w' : World} {r it : Nat} {enc : K → Value} {ev : V → Value} {left : List K} (h : Ranging w r it enc ev left) (hf : Frm S w w') (hr : ¬ S r) (hi : ¬ S it) : Ranging w' r it enc ev left := by
  obtain ⟨es, c, since, sn, c0, m, h1, h2, h3, h4, h5, h6, h7⟩ := h
  exact ⟨es, c, since, sn, c0, m, (hf.block r (lt_of_block h1) hr).trans h1, h2, h3, h4, (hf.block it (lt_of_block h5) hi).trans h5, h6, h7⟩

theorem Ranging.lt {K V : Type} {w : World} {r it : Nat} {enc : K → Value} {ev : V → Value} {left : List K} (h : Ranging w r it enc ev left) : r < w.heap.size ∧ it < w.heap.size := by
  obtain ⟨es, c, since, sn, c0, m, h1, h2, h3, h4, h5, h6, h7⟩ := h
  exact ⟨lt_of_block h1, lt_of_block h5⟩

theorem range_run {P : Program} {t kt et : TypeId} {K V : Type} {enc : K → Value} {ev : V → Value} {w : World} {r : Nat} {m : List (K × V)} (hT : P.underlying t = some (.map kt et)) (h : MapAt w r enc ev m) :
    ∃ o, (Instr.range t (.map (some r))).run P w = .ok (.pointer (some ⟨w.heap.size, 0, none⟩)) (w.alloc o) ∧ Ranging (w.alloc o) r w.heap.size enc ev (m.map (·.1)) := by
  have hlt := h.lt
  obtain ⟨es, c, h1, h2, h3, h4⟩ := h
  refine ⟨_, run_range_map w t kt et r es c hT h1, es, c, c, #[], c, m, ((Frm.refl (fun _ => False) w).alloc _).block r hlt id |>.trans h1, h2, h3, h4, heap_alloc_new w _, Nat.le_refl _, ?_, Nat.le_refl _⟩
  have : leftL es.toList #[] = es.toList := by simp [leftL]
  rw [this]
  have := congrArg (List.map Prod.fst) h2
  simpa [Function.comp_def] using this

theorem leftL_push {es : List MapEntry} {sn : Array Nat} (hn : (es.map (·.born)).Nodup) {A B : List MapEntry} {e : MapEntry} (h : leftL es sn = A ++ e :: B) : leftL es (sn.push e.born) = A ++ B := by
  have h1 : leftL es (sn.push e.born) = (leftL es sn).filter fun x => !(x.born == e.born) := by
    simp only [leftL, List.filter_filter]
    refine List.filter_congr fun x _ => ?_
    simp only [Array.contains_push]
    cases hx : x.born == e.born <;> cases hs : sn.contains x.born <;> simp_all
  have hs : ((leftL es sn).map (·.born)).Nodup := (List.Sublist.map _ List.filter_sublist).nodup hn
  rw [h1, h]
  rw [h] at hs
  simp only [List.map_append, List.map_cons] at hs
  rw [List.nodup_append] at hs
  obtain ⟨_, h3, h4⟩ := hs
  rw [List.nodup_cons] at h3
  rw [List.filter_append, List.filter_cons]
  simp only [BEq.rfl, Bool.not_true, Bool.false_eq_true, if_false]
  congr 1
  · rw [List.filter_eq_self]
    intro x hx
    have := h4 x.born (List.mem_map.2 ⟨x, hx, rfl⟩) e.born (by simp)
    simp [this]
  · rw [List.filter_eq_self]
    intro x hx
    have : x.born ≠ e.born := fun he => h3.1 (List.mem_map.2 ⟨x, hx, he⟩)
    simp [this]

theorem next_run {P : Program} {K V : Type} {enc : K → Value} {ev : V → Value} {w : World} {r it : Nat} {left : List K} (ty : TypeId) (h : Ranging w r it enc ev left) :
    (left = [] ∧ (Instr.next (.pointer (some ⟨it, 0, none⟩)) false ty).run P w = .ok (.tuple #[.bool false]) w) ∨
    ∃ A k B, ∃ x : V, ∃ w', left = A ++ k :: B ∧ (Instr.next (.pointer (some ⟨it, 0, none⟩)) false ty).run P w = .ok (.tuple #[.bool true, enc k, ev x]) w' ∧ Ranging w' r it enc ev (A ++ B) ∧ Frm (fun b => b = it) w w' ∧ w'.heap.size = w.heap.size ∧
      (Instr.entry (.pointer (some ⟨it, 0, none⟩))).run P w' = .ok (.tuple #[enc k, ev x]) w' := by
  have hne : r ≠ it := by
    intro e
    obtain ⟨es, c, since, sn, c0, m, h1, h2, h3, h4, h5, h6, h7, h8⟩ := h
    rw [e, h5] at h1; cases h1
  obtain ⟨es, c, since, sn, c0, m, h1, h2, h3, h4, h5, h6, h7, h8⟩ := h
  have hl : (leftOf es sn).toList = leftL es.toList sn := by simp [leftOf, leftL]
  rcases run_next_at (P := P) w ty it r since c0 sn es c h5 h1 h3 h6 with ⟨hz, hrun⟩ | ⟨e, he, w1, hw1, hrun⟩
  · left
    refine ⟨?_, hrun⟩
    have : leftL es.toList sn = [] := by rw [← hl]; exact List.eq_nil_of_length_eq_zero (by simpa using hz)
    rw [this] at h7
    exact List.map_eq_nil_iff.1 h7.symm
  · right
    rw [hl] at he
    obtain ⟨LA, LB, hL⟩ := List.append_of_mem he
    have hee : e ∈ es.toList := (List.mem_filter.1 he).1
    obtain ⟨⟨k0, x⟩, hx, hkx⟩ : ∃ p ∈ m, (enc p.1, ev p.2) = (e.key, e.val) := List.mem_map.1 (h2 ▸ List.mem_map.2 ⟨e, hee, rfl⟩)
    simp only [Prod.mk.injEq] at hkx
    rw [hL] at h7
    simp only [List.map_append, List.map_cons] at h7
    obtain ⟨A, T, hA, hA1, hT⟩ := List.map_eq_append_iff.1 h7.symm
    obtain ⟨k, B, hB, hk, hB2⟩ := List.map_eq_cons_iff.1 hT
    subst hB hA
    have hit : it < w.heap.size := lt_of_block h5
    have hw1h : w1.heap = w.heap := by rcases hw1 with rfl | rfl <;> rfl
    have hblk : ∀ b, b ≠ it → (setBlock w1 it (.mapIter (some r) since (sn.push e.born) c)).heap[b]? = w.heap[b]? := fun b hb => by
      simp [setBlock, hw1h, Array.getElem?_setIfInBounds_ne (Ne.symm hb)]
    have hnew : (setBlock w1 it (.mapIter (some r) since (sn.push e.born) c)).heap[it]? = some (.mapIter (some r) since (sn.push e.born) c) := by
      simp [setBlock, hw1h, hit]
    refine ⟨A, k, B, x, _, rfl, ?_, ⟨es, c, since, sn.push e.born, c, m, (hblk r hne).trans h1, h2, h3, h4, hnew, h8, ?_, h8⟩, ⟨?_, ?_, ?_, ?_, fun b _ hb => hblk b hb⟩, ?_, ?_⟩
    · exact (by rw [hk, hkx.2]; exact hrun)
    · rw [leftL_push h4 hL]; simp [hA1, hB2]
    · rcases hw1 with rfl | rfl <;> rfl
    · rcases hw1 with rfl | rfl <;> rfl
    · rcases hw1 with rfl | rfl <;> rfl
    · simp [setBlock, hw1h]
    · simp [setBlock, hw1h]
    · have := run_entry_at (P := P) (setBlock w1 it (.mapIter (some r) since (sn.push e.born) c)) it r since sn es c e hnew ((hblk r hne).trans h1) hee h4
      rw [hk, hkx.2]; exact this

/-- 'range m' at the operation. -/
theorem wpList_range_made {P : Program} {w : World} {ops : Array Oper} {rest : List Oper} {o : Oper} {a : Act} {Q : Exit → Act → World → Prop}
    (hg : o.guard = none) (mo : Operand) (t : TypeId) (hop : o.op = Op.range t mo) {kt et : TypeId} {K V : Type} {enc : K → Value} {ev : V → Value} {r : Nat} {m : List (K × V)} (hT : P.underlying t = some (.map kt et))
    (hm : a.eval mo = .map (some r)) (h : MapAt w r enc ev m)
    (hK : ∀ ob, Ranging (w.alloc ob) r w.heap.size enc ev (m.map (·.1)) → wpList P ops Q rest (a.put o.dst (.pointer (some ⟨w.heap.size, 0, none⟩))) (w.alloc ob)) : wpList P ops Q (o :: rest) a w := by
  refine wpList_plain hg fun K' hK' => ?_
  obtain ⟨ob, hrun, r1⟩ := range_run hT h
  unfold Oper.wp
  simp [execOp, hop, hm, hrun, Result.andThen]
  exact hK' _ _ (hK ob r1)

/-- The step at the operation. -/
theorem wpList_next_made {P : Program} {w : World} {ops : Array Oper} {rest : List Oper} {o : Oper} {a : Act} {Q : Exit → Act → World → Prop}
    (hg : o.guard = none) (io : Operand) (hop : o.op = Op.next io false) {K V : Type} {enc : K → Value} {ev : V → Value} {r it : Nat} {left : List K}
    (hi : a.eval io = .pointer (some ⟨it, 0, none⟩)) (h : Ranging w r it enc ev left)
    (hDone : left = [] → wpList P ops Q rest (a.put o.dst (.tuple #[.bool false])) w)
    (hMore : ∀ A k B (x : V) w', left = A ++ k :: B → Ranging w' r it enc ev (A ++ B) → Frm (fun b => b = it) w w' → w'.heap.size = w.heap.size → (Instr.entry (.pointer (some ⟨it, 0, none⟩))).run P w' = .ok (.tuple #[enc k, ev x]) w' →
      wpList P ops Q rest (a.put o.dst (.tuple #[.bool true, enc k, ev x])) w') : wpList P ops Q (o :: rest) a w := by
  refine wpList_plain hg fun K' hK' => ?_
  unfold Oper.wp
  rcases next_run (P := P) o.type h with ⟨h0, hrun⟩ | ⟨A, k, B, x, w', hl, hrun, h1, h2, h3, h4⟩
  · simp [execOp, hop, hi, hrun, Result.andThen]
    exact hK' _ _ (hDone h0)
  · simp [execOp, hop, hi, hrun, Result.andThen]
    exact hK' _ _ (hMore A k B x w' hl h1 h2 h3 h4)
end Go.Mem
