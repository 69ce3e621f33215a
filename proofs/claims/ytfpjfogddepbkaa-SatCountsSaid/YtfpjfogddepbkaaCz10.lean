/- slices' functions at whole numbers, as rows: Sort, Compact, Clone, Contains; sorted and each once, plainly. -/
import Derived.Test.YtfpjfogddepbkaaCz09
import Derived.Sort.OwnSortedInts
import Derived.Lib.RowBridge
import Derived.Test.YtfpjfogddepbkaaChecked
import Derived.Test.YtfpjfogddepbkaaCz01
import Derived.BigQuiet
import Derived.Lib.Hide
import Derived.Lib.SlicesCompact
import Derived.Laws.EntriesVeiled
set_option linter.unusedSimpArgs false
set_option linter.unusedVariables false
namespace Go.Proofs.Ytfpjfogddepbkaa
open Go.RowKit Go.Mem Go.Sat
namespace SaW
def msort (l : List Int) : List Int := l.mergeSort fun x y => decide (x ≤ y)
theorem msort_len (l : List Int) : (msort l).length = l.length := List.length_mergeSort _
theorem row_holds {w : World} {g n c : Nat} {l : List Int} (h : Row w 3 iI (.slice (some ⟨g, 0, none⟩) n c) l) : Sort.Holds (Value.int .i64) w g 0 l.toArray := by
  obtain ⟨h1, ⟨h2, _⟩ | ⟨g', cap, cur, e1, hb, hg, hn, hm, hs, ht⟩⟩ := h
  · cases h2
  · cases e1
    exact holds_of_blockI hg (by simpa using ht)
theorem row_written {w : World} {g n c k : Nat} {os : Array Obj} {l l' : List Int} (h : Row w 3 iI (.slice (some ⟨g, 0, none⟩) n c) l) (hl : l'.length = l.length) :
    Row (Sort.grow (Sort.putRow (Value.int .i64) (Sort.ahead w k) g 0 l'.toArray) os) 3 iI (.slice (some ⟨g, 0, none⟩) n c) l' ∧ Frm (fun b => b = g) w (Sort.grow (Sort.putRow (Value.int .i64) (Sort.ahead w k) g 0 l'.toArray) os) := by
  refine ⟨?_, (Frm.of_grown (grownBy_sortedI _)).mono fun b _ e => (Option.some.inj e).symm⟩
  obtain ⟨h1, ⟨h2, _⟩ | ⟨g', cap, cur, e1, hb, hg, hn, hm, hs, ht⟩⟩ := h
  · cases h2
  · cases e1
    have := ownsRow_sortedI (os := os) (n := k) hl (Nat.zero_le g) hg hn hm hs
    unfold Row
    rw [hl]
    exact this
theorem sort_calls (w : World) (v : Value) (l : List Int) (hrow : Row w 3 iI v l) (hn : l.length ≤ 1099511627776) : Calls Try.prog 47 #[v] w fun e w' => e = .returned (.tuple #[]) ∧ Row w' 3 iI v (msort l) ∧ Frm (fun b => v.ownBlock = some b) w w' := by
  have hlt := hrow.lt
  rcases hrow.shape with ⟨rfl, rfl⟩ | ⟨g, c, rfl, ho, _⟩
  · refine (Try.slices_Sort_int_none none 0 w).mono ?_
    rintro e w' ⟨rfl, rfl⟩
    exact ⟨rfl, by rw [show msort [] = [] from List.mergeSort_nil]; exact hrow, Frm.refl _ _⟩
  · refine (Try.slices_Sort_int g 0 c l w (row_holds hrow) (hlt g ho) (by omega)).mono ?_
    rintro e w' ⟨rfl, k, os, rfl⟩
    obtain ⟨h1, h2⟩ := row_written (k := k) (os := os) hrow (l' := msort l) (msort_len l)
    exact ⟨rfl, h1, h2.mono fun b _ e => by rw [e]; rfl⟩
theorem compact_calls (w : World) (v : Value) (l : List Int) (hrow : Row w 3 iI v l) : Calls Try.prog 48 #[v] w fun e w' => ∃ v', e = .returned v' ∧ Row w' 3 iI v' (Lib.compact l) ∧ Frm (fun b => v.ownBlock = some b) w w' ∧ v'.ownBlock = v.ownBlock := by
  have hcl : (Lib.compact l).length ≤ l.length := Lib.compact_length_le l
  rcases hrow.shape with ⟨rfl, rfl⟩ | ⟨g, c, rfl, ho, h1, h2, _⟩
  · refine (Try.slices_Compact_int_empty none 0 w).mono ?_
    rintro e w' ⟨rfl, rfl⟩
    exact ⟨_, rfl, hrow, Frm.refl _ _, rfl⟩
  · refine (Try.slices_Compact_int g 0 c l w (row_holds hrow) (by have : maxLen = 9223372036854775807 := rfl; omega) h1).mono ?_
    rintro e w' ⟨rfl, k, rfl⟩
    have hl : (Lib.compact l ++ List.replicate (l.length - (Lib.compact l).length) 0).length = l.length := by simp; omega
    obtain ⟨h3, h4⟩ := row_written (k := k) (os := #[]) hrow (l' := Lib.compact l ++ List.replicate (l.length - (Lib.compact l).length) 0) hl
    rw [Sort.grow_empty] at h3 h4
    have h5 := Row.first h3 (k := (Lib.compact l).length) (by rw [hl]; exact hcl)
    rw [List.take_left] at h5
    exact ⟨_, rfl, h5, h4.mono fun b _ e => by rw [e]; rfl, rfl⟩
theorem getD_get {l : List Int} {j : Nat} (h : j < l.length) : l[j]? = some (l.getD j 0) := by
  rw [List.getD_eq_getElem?_getD, List.getElem?_eq_getElem h]
  rfl
theorem clone_calls (w : World) (v : Value) (l : List Int) (hv : Sees w iI v l) (hn : l.length ≤ 1099511627776) : Calls Try.prog 46 #[v] w fun e w' => ∃ v', e = .returned v' ∧ Row w' 3 iI v' l ∧ Frm (fun _ => False) w w' ∧ ∀ g, v'.ownBlock = some g → w.heap.size ≤ g := by
  rcases hv with ⟨rfl, rfl⟩ | ⟨g, o, c, rfl, _, _, hc⟩
  · refine (Try.slices_Clone_int_nil 0 0 w).mono ?_
    rintro e w' ⟨rfl, rfl⟩
    exact ⟨_, rfl, Row.nil _ _ _, Frm.refl _ _, fun g e => by cases e⟩
  · refine (Try.slices_Clone_int g o l.length c l w (Nat.le_refl _) (by omega) (fun j hj => hc j _ (getD_get hj))).mono ?_
    rintro e w' ⟨v', rfl, h1, _, h2⟩
    rw [List.take_length] at h1
    refine ⟨v', rfl, own_base h1, Frm.of_below h2, fun g e => ?_⟩
    exact (World.ownsRow.lt h1 g e).1
theorem contains_calls (w : World) (v : Value) (l : List Int) (x : Int) (hv : Sees w iI v l) : Calls Try.prog 49 #[v, .int .i64 x] w fun e w' => e = .returned (.bool (decide (x ∈ l))) ∧ w' = w := by
  rcases hv with ⟨rfl, rfl⟩ | ⟨g, o, c, rfl, h1, h2, hc⟩
  · refine (Try.slices_Contains_int_empty none 0 x w).mono ?_
    rintro e w' ⟨rfl, rfl⟩
    exact ⟨by simp, rfl⟩
  · refine (Try.slices_Contains_int g o l.length c l x w (Nat.le_refl _) (by have : maxLen = 9223372036854775807 := rfl; omega) (fun j hj => hc j _ (getD_get hj))).mono ?_
    rintro e w' ⟨rfl, rfl⟩
    rw [List.take_length]
    exact ⟨by simp, rfl⟩
end SaW
end Go.Proofs.Ytfpjfogddepbkaa
/- Package slices at whole numbers, walked: Index, Contains, IndexFunc, ContainsFunc. -/
namespace Go.Proofs.Ytfpjfogddepbkaa
open Go.RowKit Go.Mem
namespace Sl

/-- The first index at which q is true; below 0: none. -/
def idx {α : Type} (q : α → Bool) (xs : List α) : Int := match xs.findIdx? q with | some i => i | none => -1
theorem idx_any {α : Type} (q : α → Bool) (xs : List α) : decide (idx q xs ≥ 0) = xs.any q := by
  unfold idx
  cases h : xs.findIdx? q with
  | none =>
    have := List.findIdx?_eq_none_iff.1 h
    simp only [ge_iff_le, show ¬ ((0 : Int) ≤ -1) from by decide, decide_false]
    symm
    simpa using this
  | some i =>
    have := (List.findIdx?_eq_some_iff_findIdx_eq.1 h)
    simp only [ge_iff_le, Int.natCast_nonneg, decide_true]
    symm
    rw [List.any_eq_true]
    have h2 := List.findIdx?_eq_some_iff_getElem.1 h
    obtain ⟨hi, hq, _⟩ := h2
    exact ⟨xs[i], List.getElem_mem hi, hq⟩
theorem idx_hit {α : Type} {q : α → Bool} {xs : List α} {k : Nat} {x : α} (hx : xs[k]? = some x) (hq : q x = true) (hb : ∀ j y, j < k → xs[j]? = some y → q y = false) : idx q xs = k := by
  have hk := (List.getElem?_eq_some_iff.1 hx)
  obtain ⟨hk, rfl⟩ := hk
  have : xs.findIdx? q = some k := List.findIdx?_eq_some_iff_getElem.2 ⟨hk, hq, fun j hj => by have := hb j _ hj (List.getElem?_eq_getElem (by omega)); simp [this]⟩
  unfold idx
  rw [this]
theorem idx_miss {α : Type} {q : α → Bool} {xs : List α} (hb : ∀ j y, j < xs.length → xs[j]? = some y → q y = false) : idx q xs = -1 := by
  have : xs.findIdx? q = none := List.findIdx?_eq_none_iff.2 fun x hx => by
    obtain ⟨i, hi, rfl⟩ := List.getElem_of_mem hx
    exact hb i _ hi (List.getElem?_eq_getElem hi)
  unfold idx
  rw [this]

def Before {α : Type} (q : α → Bool) (xs : List α) (k : Nat) : Prop := ∀ j y, j < k → xs[j]? = some y → q y = false
theorem Before.zero {α : Type} (q : α → Bool) (xs : List α) : Before q xs 0 := fun j y h => by omega
theorem Before.succ {α : Type} {q : α → Bool} {xs : List α} {k : Nat} {x : α} (h : Before q xs k) (hx : xs[k]? = some x) (hq : q x = false) : Before q xs (k + 1) := fun j y hj hy => by
  by_cases e : j = k
  · subst e; rw [hx] at hy; cases hy; exact hq
  · exact h j y (by omega) hy

set_option maxHeartbeats 1000000 in
theorem indexFunc_calls (fid : FuncId) (cap : Array Value) (q : Int → Bool) (v : Value) (xs : List Int) (w : World) (hv : Sees w (Value.int .i64) v xs)
    (hcf : ∀ (x : Int) (w : World), (callFunc fid (#[.int .i64 x] ++ cap)).run Try.prog w = .ok (.enter fid (#[.int .i64 x] ++ cap)) w)
    (hq : ∀ x : Int, Calls Try.prog fid (#[.int .i64 x] ++ cap) w fun e w' => e = .returned (.bool (q x)) ∧ w = w') :
    Calls Try.prog 50 #[v, .func (.func fid) #[] cap] w fun e w' => e = .returned (.int .i64 (idx q xs)) ∧ w = w' := by
  have Hq := Lib.hid hq
  clear hq
  have hlen : (xs.length : Int) ≤ 9223372036854775807 := by have := hv.len; have h : maxLen = 9223372036854775807 := rfl; omega
  obtain ⟨A, c, rfl, hc⟩ : ∃ A c, v = .slice A xs.length c ∧ ∀ i x, xs[i]? = some x → ∃ g o, A = some ⟨g, o, none⟩ ∧ w.cell? ⟨g, o + i, none⟩ = some (.int .i64 x) := by
    rcases hv with ⟨rfl, rfl⟩ | ⟨g, o, c, rfl, _, _, h⟩
    · exact ⟨none, 0, rfl, fun i x h => by simp at h⟩
    · exact ⟨some ⟨g, o, none⟩, c, rfl, fun i x hx => ⟨g, o, rfl, h i x hx⟩⟩
  have Hc := Lib.hid hc
  clear hc hv
  go_enter Try.func50, Try.ntmps50
  go_wp2
  go_loop [5, 8] (fun _ v8 => ∃ k : Nat, k ≤ xs.length ∧ v8 = .int .i64 k ∧ Before q xs k) (fun _ v8 => xs.length - (intOf v8).toNat)
  case atStart => exact ⟨0, Nat.zero_le _, rfl, .zero _ _⟩
  case round =>
    obtain ⟨k, hk, rfl, hB⟩ := hrel
    by_cases hlt : k < xs.length
    · have hx : xs[k]? = some xs[k] := List.getElem?_eq_getElem hlt
      obtain ⟨g, o, rfl, hcell⟩ := Hc.out k _ hx
      generalize xs[k] = x at *
      have Hx := Lib.hid hx
      clear hx
      have HB := Lib.hid hB
      clear hB
      go_wp2_with fail
      refine (Hq.out x).mono ?_
      cases hqx : q x with
      | true =>
        rintro e w' ⟨rfl, rfl⟩
        have hfin := Lib.hid (idx_hit Hx.out hqx HB.out)
        clear hqx
        go_wp2
        go_ret
        exact ⟨by rw [hfin.out]; rfl, rfl⟩
      | false =>
        rintro e w' ⟨rfl, rfl⟩
        have hfin := Lib.hid (HB.out.succ Hx.out hqx)
        clear hqx
        go_wp2
        go_round
        case rel => exact ⟨k + 1, by omega, by go_num, hfin.out⟩
        case measure => simp [intOf]; omega
    · have hke : k = xs.length := by omega
      have hfin := Lib.hid (idx_miss (q := q) (xs := xs) (by rw [← hke]; exact hB))
      clear hke
      have HB := Lib.hid hB
      clear hB
      go_wp2
      go_ret
      exact ⟨by rw [hfin.out]; rfl, rfl⟩

theorem containsFunc_calls (fid : FuncId) (cap : Array Value) (q : Int → Bool) (v : Value) (xs : List Int) (w : World) (hv : Sees w (Value.int .i64) v xs)
    (hcf : ∀ (x : Int) (w : World), (callFunc fid (#[.int .i64 x] ++ cap)).run Try.prog w = .ok (.enter fid (#[.int .i64 x] ++ cap)) w)
    (hq : ∀ x : Int, Calls Try.prog fid (#[.int .i64 x] ++ cap) w fun e w' => e = .returned (.bool (q x)) ∧ w = w') :
    Calls Try.prog 25 #[v, .func (.func fid) #[] cap] w fun e w' => e = .returned (.bool (xs.any q)) ∧ w = w' := by
  have Hi := Lib.hid (indexFunc_calls fid cap q v xs w hv hcf hq)
  have hfin := Lib.hid (idx_any q xs)
  clear hv hcf hq
  generalize idx q xs = r at *
  go_enter Try.func25, Try.ntmps25
  go_wp2_with fail
  refine Hi.out.mono ?_
  rintro e w' ⟨rfl, rfl⟩
  go_wp2
  go_ret
  exact ⟨by rw [← hfin.out]; rfl, rfl⟩

end Sl
end Go.Proofs.Ytfpjfogddepbkaa
/- Sorted, each once: what slices.Sort and slices.Compact make is sortedF. Plain. -/
namespace Go.Sat
theorem upTo_ok (d : Array Int) (hs : ∀ i j, i ≤ j → j < d.size → d[i]! ≤ d[j]!) : ∀ m, m ≤ d.size → (Lib.compactUpTo d m).Pairwise (· < ·) ∧ ∀ x, x ∈ Lib.compactUpTo d m ↔ ∃ j, j < m ∧ d[j]! = x
  | 0, _ => by simp [Lib.compactUpTo]
  | m + 1, hm => by
    obtain ⟨h1, h2⟩ := upTo_ok d hs m (by omega)
    rw [Lib.compactUpTo_succ]
    by_cases hk : Lib.keeps d m = true
    · rw [if_pos hk]
      have hlt : ∀ x ∈ Lib.compactUpTo d m, x < d[m]! := fun x hx => by
        obtain ⟨j, hj, rfl⟩ := (h2 x).1 hx
        have h3 := hs j (m - 1) (by omega) (by omega)
        have h4 := hs (m - 1) m (by omega) (by omega)
        have h5 : d[m - 1]! ≠ d[m]! := by
          intro e
          unfold Lib.keeps at hk
          simp at hk
          rcases hk with hk | hk
          · omega
          · exact hk (by first | exact e.symm | exact e)
        omega
      refine ⟨List.pairwise_append.2 ⟨h1, by simp, fun x hx y hy => by rw [List.mem_singleton.1 hy]; exact hlt x hx⟩, fun x => ?_⟩
      rw [List.mem_append, List.mem_singleton, h2]
      constructor
      · rintro (⟨j, hj, e⟩ | e)
        · exact ⟨j, by omega, e⟩
        · exact ⟨m, by omega, e.symm⟩
      · rintro ⟨j, hj, e⟩
        by_cases hjm : j = m
        · subst hjm; exact .inr e.symm
        · exact .inl ⟨j, by omega, e⟩
    · rw [if_neg hk, List.append_nil]
      refine ⟨h1, fun x => ?_⟩
      rw [h2]
      unfold Lib.keeps at hk
      simp at hk
      constructor
      · rintro ⟨j, hj, e⟩
        exact ⟨j, by omega, e⟩
      · rintro ⟨j, hj, e⟩
        by_cases hjm : j = m
        · subst hjm
          exact ⟨j - 1, by omega, by rw [← e]; first | exact hk.2 | exact hk.2.symm⟩
        · exact ⟨j, by omega, e⟩
theorem insert_mem (x : Int) : ∀ (l : List Int) (y : Int), y ∈ insertF x l ↔ y = x ∨ y ∈ l
  | [], y => by simp [insertF]
  | a :: l, y => by
    unfold insertF
    split
    · simp
    · split
      · rename_i h1 h2
        subst h2
        simp
      · simp only [List.mem_cons, insert_mem x l y]
        constructor
        · rintro (h | h | h) <;> simp [h]
        · rintro (h | h | h) <;> simp [h]
theorem insert_sorted (x : Int) : ∀ {l : List Int}, l.Pairwise (· < ·) → (insertF x l).Pairwise (· < ·)
  | [], _ => by simp [insertF]
  | a :: l, h => by
    have h' := List.pairwise_cons.1 h
    unfold insertF
    split
    · rename_i h1
      refine List.pairwise_cons.2 ⟨fun y hy => ?_, h⟩
      rcases List.mem_cons.1 hy with rfl | hy
      · exact h1
      · have := h'.1 y hy; omega
    · split
      · exact h
      · refine List.pairwise_cons.2 ⟨fun y hy => ?_, insert_sorted x h'.2⟩
        rcases (insert_mem x l y).1 hy with rfl | hy
        · omega
        · exact h'.1 y hy
theorem sortedF_mem : ∀ (l : List Int) (y : Int), y ∈ sortedF l ↔ y ∈ l
  | [], y => by simp [sortedF]
  | x :: l, y => by simp [sortedF, insert_mem, sortedF_mem l y]
theorem sortedF_sorted : ∀ (l : List Int), (sortedF l).Pairwise (· < ·)
  | [] => by simp [sortedF]
  | x :: l => insert_sorted x (sortedF_sorted l)
theorem sorted_ext : ∀ {a b : List Int}, a.Pairwise (· < ·) → b.Pairwise (· < ·) → (∀ x, x ∈ a ↔ x ∈ b) → a = b
  | [], [], _, _, _ => rfl
  | [], y :: b, _, _, h => by have := (h y).2 List.mem_cons_self; simp at this
  | x :: a, [], _, _, h => by have := (h x).1 List.mem_cons_self; simp at this
  | x :: a, y :: b, ha, hb, h => by
    have ha' := List.pairwise_cons.1 ha
    have hb' := List.pairwise_cons.1 hb
    have hxy : x = y := by
      rcases List.mem_cons.1 ((h x).1 List.mem_cons_self) with h1 | h1
      · exact h1
      · rcases List.mem_cons.1 ((h y).2 List.mem_cons_self) with h2 | h2
        · exact h2.symm
        · have := ha'.1 y h2; have := hb'.1 x h1; omega
    subst hxy
    congr 1
    refine sorted_ext ha'.2 hb'.2 fun z => ⟨fun hz => ?_, fun hz => ?_⟩
    · rcases List.mem_cons.1 ((h z).1 (List.mem_cons_of_mem _ hz)) with h1 | h1
      · have := ha'.1 z hz; omega
      · exact h1
    · rcases List.mem_cons.1 ((h z).2 (List.mem_cons_of_mem _ hz)) with h1 | h1
      · have := hb'.1 z hz; omega
      · exact h1
theorem compact_msort (l : List Int) : Lib.compact (l.mergeSort fun x y => decide (x ≤ y)) = sortedF l := by
  have hsort : (l.mergeSort fun x y => decide (x ≤ y)).Pairwise fun x y => decide (x ≤ y) = true := List.pairwise_mergeSort (fun a b c h1 h2 => by simp at *; omega) (fun a b => by simp; omega) l
  have hperm : ∀ x, x ∈ (l.mergeSort fun x y => decide (x ≤ y)) ↔ x ∈ l := fun x => (List.mergeSort_perm l _).mem_iff
  generalize (l.mergeSort fun x y => decide (x ≤ y)) = m at hsort hperm
  unfold Lib.compact
  have hget : ∀ j, j < m.length → m.toArray[j]! = m.getD j 0 := fun j hj => by simp [hj]
  obtain ⟨h1, h2⟩ := upTo_ok m.toArray (fun i j hij hj => by
    simp at hj
    by_cases e : i = j
    · subst e; exact Int.le_refl _
    · have := List.pairwise_iff_getElem.1 hsort i j (by omega) hj (by omega)
      simp at this
      simpa [show i < m.length by omega, hj] using this) m.length (by simp)
  refine sorted_ext h1 (sortedF_sorted l) fun x => ?_
  rw [h2, sortedF_mem, ← hperm x, List.mem_iff_getElem]
  constructor
  · rintro ⟨j, hj, e⟩
    exact ⟨j, hj, by simpa [hj] using e⟩
  · rintro ⟨j, hj, e⟩
    exact ⟨j, hj, by simpa [hj] using e⟩
end Go.Sat
/- cnf.right, cnf.Check at one clause, walked. -/
namespace Go.Proofs.Ytfpjfogddepbkaa
open Go.RowKit Go.Mem Go.Sat
namespace SaW
set_option maxRecDepth 100000 in
theorem right_calls (w : World) (n : Int) : Calls Try.prog 43 #[.int .i64 n] w fun e w' => e = .returned (.bool (rightF n)) ∧ w = w' := by
  by_cases h0 : n = 0
  · subst h0
    go_enter Try.func43, Try.ntmps43
    go_wp2
    go_ret
    exact ⟨rfl, rfl⟩
  · have e0 : (n != 0) = true := by simpa using h0
    by_cases h1 : -1048576 ≤ n
    · have e1 : decide (-1048576 ≤ n) = true := by simpa using h1
      have hr : Hid (rightF n = decide (n ≤ 1048576)) := Lib.hid (by unfold rightF; simp [h0, h1])
      clear h0 h1
      go_enter Try.func43, Try.ntmps43
      go_wp2
      go_ret
      exact ⟨by rw [hr.out]; rfl, rfl⟩
    · have e1 : decide (-1048576 ≤ n) = false := by simpa using h1
      have hr : Hid (rightF n = false) := Lib.hid (by unfold rightF; simp [h1])
      clear h0 h1
      go_enter Try.func43, Try.ntmps43
      go_wp2
      go_ret
      exact ⟨by rw [hr.out]; rfl, rfl⟩
set_option maxRecDepth 100000 in
theorem wrong_calls (w : World) (n : Int) : Calls Try.prog 42 #[.int .i64 n] w fun e w' => e = .returned (.bool (!rightF n)) ∧ w = w' := by
  have HR := Lib.hid (right_calls w n)
  go_enter Try.func42, Try.ntmps42
  go_wp2_with fail
  refine HR.out.mono ?_
  rintro e w1 ⟨rfl, rfl⟩
  dsimp only
  go_wp2
  go_ret
  exact ⟨rfl, rfl⟩
theorem any_check (l : List Int) : (l.any fun n => !rightF n) = !checkF l := by
  unfold checkF
  induction l with
  | nil => rfl
  | cons a l ih => simp only [List.any_cons, List.all_cons, ih]; cases rightF a <;> rfl
set_option maxRecDepth 100000 in
set_option maxHeartbeats 1000000 in
theorem check_calls (w : World) (g : Nat) (v : Value) (l : List Int) (hv : Sees w iI v l) (hg : w.cell? ⟨g, 0, none⟩ = some v) : Calls Try.prog 21 #[.slice (some ⟨g, 0, none⟩) 1 1] w fun e w' => e = .returned (.int .i64 (if checkF l then 0 else 60)) ∧ w = w' := by
  have HC := Lib.hid (Sl.containsFunc_calls 42 #[] (fun n => !rightF n) v l w hv (fun x w => rfl) (fun x => wrong_calls w x))
  rw [any_check] at HC
  obtain ⟨VA, vc, hvs, _⟩ := sees_slice hv
  clear hv
  obtain ⟨b, hb⟩ : ∃ b, b = checkF l := ⟨_, rfl⟩
  rw [← hb] at HC ⊢
  subst hvs
  clear hb
  go_enter Try.func21, Try.ntmps21
  go_wp2_with fail
  go_loopw [7] (fun v7 w' => w' = w ∧ ((v7 = .int .i64 0) ∨ (v7 = .int .i64 1 ∧ Hid (b = true)))) (fun v7 _ => 2 - (intOf v7).toNat)
  case atStart => exact ⟨rfl, .inl rfl⟩
  case round =>
    obtain ⟨rfl, rfl | ⟨rfl, hb⟩⟩ := hrel
    · go_wp2_with fail
      refine HC.out.mono ?_
      rintro e w1 ⟨rfl, rfl⟩
      dsimp only
      cases b with
      | true =>
        simp only [Bool.not_true]
        go_wp2
        go_roundw
        case rel => exact ⟨trivial, .inr ⟨rfl, Lib.hid trivial⟩⟩
        case measure => simp only [intOf]; omega
      | false =>
        simp only [Bool.not_false]
        go_wp2
        go_ret
        exact ⟨rfl, rfl⟩
    · go_wp2
      go_ret
      first | exact ⟨rfl, rfl⟩ | exact ⟨by rw [hb.out]; rfl, rfl⟩
end SaW
end Go.Proofs.Ytfpjfogddepbkaa
/- Maps with strings for keys; insertions of a map literal. No program in sight. -/
namespace Go.Mem
open Go.RowKit
theorem bytes_beqd (a b : ByteArray) : (a == b) = decide (a = b) := by
  rw [Bool.eq_iff_iff, decide_eq_true_iff]
  obtain ⟨x⟩ := a
  obtain ⟨y⟩ := b
  constructor
  · intro h
    have e : x = y := by simpa using (show (x == y) = true from h)
    rw [e]
  · intro h
    cases h
    show (x == x) = true
    simp
theorem checkKey_str {P : Program} {t : TypeId} (hu : P.underlying t = some .string) (b : Bool) (n : Nat) (k : ByteArray) (w : World) : (Instr.checkKey b (n + 1) t (.string k)).run P w = .ok () w := by
  rw [Instr.checkKey]
  simp [run_underlying hu]
theorem keyEnc_str {P : Program} {kt : TypeId} (hu : P.underlying kt = some .string) : KeyEnc P kt Value.string :=
  keyEnc_now hu (fun w k b => checkKey_str hu b 9999 k w) (fun a b => by simp [Instr.sameNow]; exact bytes_beqd a b) (fun k => by simp [Instr.sameBits]; rw [bytes_beqd]; simp)
/-- A map literal's entry, at the operation. -/
theorem wpList_insert {P : Program} {w : World} {ops : Array Oper} {rest : List Oper} {o : Oper} {a : Act} {Q : Exit → Act → World → Prop}
    (hg : o.guard = none) (mo x vo : Operand) (t : TypeId) (hop : o.op = Op.insert t mo x vo) {kt et : TypeId} {K V : Type} [DecidableEq K] {enc : K → Value} {ev : V → Value} {r : Nat} {m : List (K × V)} (hk : KeyEnc P kt enc) (hT : P.underlying t = some (.map kt et))
    (k : K) (v : V) (hm : a.eval mo = .map (some r)) (hx : a.eval x = enc k) (hv : a.eval vo = ev v) (h : MapAt w r enc ev m)
    (hK : ∀ w', MapAt w' r enc ev (mput m k v) → w.grownBy w' (some r) → wpList P ops Q rest (a.put o.dst undef) w') : wpList P ops Q (o :: rest) a w := by
  refine wpList_plain hg fun K' hK' => ?_
  obtain ⟨w', hrun, r1, r2⟩ := update_run hk hT h k v
  unfold Oper.wp
  simp [execOp, hop, hm, hx, hv, hrun, Result.andThen]
  exact hK' _ _ (hK w' r1 r2)
end Go.Mem
/- Why a literal can't be, walked: core. -/
namespace Go.Proofs.Ytfpjfogddepbkaa
open Go.RowKit Go.Mem Go.Sat
namespace SaW
/-- What core holds: which variables say why, what comes out. -/
structure Cor (w : World) (w' : World) (mb : Nat) (why : List Int) (v8 : Value) (out : List Int) : Prop where
  frm : Frm (fun _ => False) w w'
  seen : SeenAt w' mb why
  mbB : w.heap.size ≤ mb
  row : Row w' 3 iI v8 out
  own : ∀ g, v8.ownBlock = some g → w.heap.size ≤ g ∧ g ≠ mb
theorem Cor.frm0 {w w' w'' : World} {mb : Nat} {why out : List Int} {v8 : Value} (h : Cor w w' mb why v8 out) (hf : Frm (fun _ => False) w' w'') : Cor w w'' mb why v8 out := by
  obtain ⟨kvs, h1, h2⟩ := h.seen
  exact ⟨frm_then h.frm hf, ⟨kvs, h1.frm hf id, h2⟩, h.mbB, h.row.frm0 hf, h.own⟩
theorem Cor.see {w w' w'' : World} {mb : Nat} {why out : List Int} {v8 : Value} {kvs : List (Int × Bool)} (h : Cor w w' mb why v8 out) (h2 : ∀ k, (mget kvs k).getD false = decide (k ∈ why)) {k : Int} (hm : MapAt w'' mb iI Value.bool (mput kvs k true)) (hg : w'.grownBy w'' (some mb)) : Cor w w'' mb (k :: why) v8 out := by
  have hf := Frm.of_grown hg
  refine ⟨h.frm.trans hf fun x hx e => ?_, SeenAt.put h2 hm, h.mbB, h.row.frm hf fun g hg e => ?_, h.own⟩
  · cases e; have := h.mbB; omega
  · cases e; exact (h.own _ hg).2 rfl
theorem Cor.put {w w' w'' : World} {mb : Nat} {why out : List Int} {v8 : Value} {m : Int} {o : Obj} {g7 n7 cap7 : Nat} (h : Cor w w' mb why v8 out) (hrow : Row w'' 3 iI (.slice (some ⟨g7, 0, none⟩) n7 cap7) (out ++ [m])) (hfr : Frm (fun b => v8.ownBlock = some b) (w'.alloc o) w'') (hg : v8.ownBlock = some g7 ∨ g7 = w'.heap.size + 1) : Cor w w'' mb why (.slice (some ⟨g7, 0, none⟩) n7 cap7) (out ++ [m]) := by
  have ha := h.frm0 (frm_alloc w' o)
  have hmb := h.seen.lt
  have hg' : w.heap.size ≤ g7 ∧ g7 ≠ mb := by
    rcases hg with e | e
    · exact h.own g7 e
    · have h1 := h.frm.size
      exact ⟨by omega, by omega⟩
  refine ⟨ha.frm.trans hfr fun x hx e => ?_, ?_, h.mbB, hrow, fun g e => by cases e; exact hg'⟩
  · have := (h.own x e).1; omega
  · obtain ⟨kvs, h1, h2⟩ := ha.seen
    exact ⟨kvs, h1.frm hfr fun e => (h.own mb e).2 rfl, h2⟩
theorem take_last {l : List Int} {k b : Nat} {m : Int} (hm : l[k]? = some m) (hb : b ≤ k) : ((l.take (k + 1)).drop b).reverse = m :: ((l.take k).drop b).reverse := by
  have hk := (List.getElem?_eq_some_iff.1 hm).1
  rw [List.take_add_one, hm, List.drop_append_of_le_length (by simp; omega)]
  simp
/-- What is left to do. -/
def CoreRest (s : St) (assume : List Int) (k : Nat) (why out res : List Int) : Prop := match s.limits.head? with
  | none => sortedF out = res ∧ roomB out.length = true
  | some b => 0 ≤ b ∧ (coreL s assume why out (((s.trail.take k).drop b.toNat).reverse)).bind (fun o => if roomB o.length then some (sortedF o) else none) = some res
section
variable {w : World} {R : Nat → Option Role} {p : Nat} {s : St}
set_option maxRecDepth 100000 in
set_option maxHeartbeats 4000000 in
theorem core_calls (h : SolverAt w R p s) (n : Int) (va : Value) (assume : List Int) (hA : Sees w iI va assume) (res : List Int) (hs : coreF s n assume = some res) : Calls Try.prog 38 #[.pointer (some ⟨p, 0, none⟩), .int .i64 n, va] w fun e w' => ∃ v, e = .returned v ∧ Row w' 3 iI v res ∧ Frm (fun _ => False) w w' ∧ ∀ g, v.ownBlock = some g → w.heap.size ≤ g := by
  obtain ⟨i0, hi, hz0, hz1, hz2⟩ := info_parts info_int
  have HS0 := Lib.hid h
  have HA := Lib.hid hA
  obtain ⟨AA, ac, rfl, _⟩ := sees_slice hA
  obtain ⟨ids, vv, hv, pv, lv, tv, mv, bm, kvs, H⟩ := h
  have HH := Lib.hid H
  have htl : s.trail.length ≤ 9223372036854775807 := H.trail.sees.len
  have hbl := H.lt p _ H.rme
  unfold coreF at hs
  split at hs
  case isTrue => cases hs
  rename_i hsn
  have hsm := sml_of (n := n) (by simpa using hsn)
  obtain ⟨q, hq⟩ : ∃ q : Nat, ofF n = q := ⟨(ofF n).toNat, by have := (of_abs hsm).1; omega⟩
  have HO := Lib.hid (fun w1 => of_calls w1 n hsm)
  rw [hq] at HO hs
  have HSS := Lib.hid hs
  have hmm := @run_makeMap Try.prog
  have hM0 : MapAt (w.alloc (.map #[] 0)) w.heap.size iI Value.bool [] := mapAt_new w iI Value.bool
  clear H hA hs hsn hsm hq
  go_enter Try.func38, Try.ntmps38
  go_wp2_with fail
  refine (HO.out _).mono ?_
  rintro e w1 ⟨rfl, hf1⟩
  have HM1 := Lib.hid (hM0.frm hf1 id)
  have HF1 := Lib.hid (frm_then (frm_alloc w _) hf1)
  clear hf1 hM0
  dsimp only
  go_wp2_with (refine wpList_insert rfl _ _ _ 79 rfl keyInt Try.underlying79 (ev := Value.bool) (q : Int) true rfl rfl rfl HM1.out ?_)
  intro w2 hm2 hg2
  have hF2 : Frm (fun _ => False) w w2 := HF1.out.trans (Frm.of_grown hg2) fun x hx e => by cases e; omega
  have hS2 : SeenAt w2 w.heap.size [(q : Int)] := SeenAt.put (kvs := []) (fun k => by simp [mget]) hm2
  have hlt2 : w.heap.size < w2.heap.size := by have h1 := hm2.lt; exact h1
  have hcor : Cor w (w2.alloc (.cells #[.int .i64 n] 3)) w.heap.size [(q : Int)] (.slice (some ⟨w2.heap.size, 0, none⟩) 1 1) [n] := by
    obtain ⟨kv, h1, h2⟩ := hS2
    exact ⟨hF2.alloc _, ⟨kv, h1.frm (frm_alloc _ _) id, h2⟩, Nat.le_refl _, ⟨by simp, .inr ⟨w2.heap.size, 1, _, rfl, Nat.zero_le _, blk_new _, Nat.le_refl _, by decide, rfl, rfl⟩⟩, fun g e => by cases e; exact ⟨hF2.size, Nat.ne_of_gt hlt2⟩⟩
  have HCOR := Lib.hid hcor
  have hH3 := HH.out.frm0 hcor.frm
  obtain ⟨_, _, _, _, _, c5, _⟩ := hH3.cells
  obtain ⟨TA, tc, htv, _⟩ := sees_slice hH3.trail.sees
  subst htv
  have HREST : Hid (CoreRest s assume s.trail.length [(q : Int)] [n] res) := Lib.hid (by
    have h1 := HSS.out
    unfold CoreRest
    split at h1
    · rename_i e; rw [e]; exact ⟨Option.some.inj h1, rfl⟩
    · rename_i b e
      rw [e]
      split at h1
      · cases h1
      · exact ⟨by omega, by rw [List.take_length]; exact h1⟩)
  clear hF2 hS2 hcor hH3 hm2 hg2 HM1 HF1 HSS hmm HO hlt2
  go_wp2_with fail
  clear c5
  go_loopw [8, 9] (fun v8 v9 w' => ∃ k : Nat, v9 = .int .i64 ((k : Int) - 1) ∧ k ≤ s.trail.length ∧ ∃ why out, Hid (CoreRest s assume k why out res) ∧ Hid (Cor w w' w.heap.size why v8 out)) (fun _ v9 _ => (intOf v9 + 1).toNat)
  case atStart => exact ⟨s.trail.length, rfl, Nat.le_refl _, _, _, HREST, HCOR⟩
  case round =>
    obtain ⟨k, rfl, hk, why, out, HR, HC⟩ := hrel
    clear HREST HCOR
    have hH := HH.out.frm0 HC.out.frm
    obtain ⟨d0, _, _, _, _, d5, d6, _⟩ := hH.cells
    obtain ⟨MA, mc, hmv, _⟩ := sees_slice hH.limits.sees
    subst hmv
    have hml : s.limits.length ≤ 9223372036854775807 := hH.limits.sees.len
    by_cases hl0 : s.limits.length = 0
    · have hn : s.limits = [] := List.eq_nil_of_length_eq_zero hl0
      have hcr : sortedF out = res ∧ roomB out.length = true := by have h1 := HR.out; unfold CoreRest at h1; rw [hn] at h1; exact h1
      have HFIN := Lib.hid hcr.1
      have HO40 := Lib.hid (room_of hcr.2)
      rw [hl0] at d6
      clear hcr hn hl0 HR
      by_cases hk0 : 1 ≤ k
      · have e1 : (0 : Int) ≤ (k : Int) - 1 := by omega
        have hfin : sortedF out = res := HFIN.out
        have ho40 := HO40.out
        have HFIN2 := Lib.hid hfin
        have HSRT := Lib.hid (sort_calls wr u8 out HC.out.row ho40)
        obtain ⟨OA, oc, hu8, _⟩ := sees_slice HC.out.row.sees
        subst hu8
        clear hfin ho40
        go_wp2_with fail
        clear d0 d5 d6 hH
        refine HSRT.out.mono ?_
        rintro e w5 ⟨rfl, hr5, hf5⟩
        have HF5 := Lib.hid (HC.out.frm.trans hf5 fun x hx e => by have := (HC.out.own x e).1; omega)
        have HCMP := Lib.hid (compact_calls w5 _ (msort out) hr5)
        clear hr5 hf5
        dsimp only
        go_wp2_with fail
        refine HCMP.out.mono ?_
        rintro e w6 ⟨v6, rfl, hr6, hf6, ho6⟩
        have HF6 := Lib.hid (HF5.out.trans hf6 fun x hx e => by have := (HC.out.own x e).1; omega)
        have HR6 := Lib.hid hr6
        have HO6 := Lib.hid ho6
        clear hr6 hf6 ho6
        dsimp only
        go_wp2
        go_ret
        refine ⟨v6, rfl, ?_, HF6.out, fun g e => (HC.out.own g (by rw [← HO6.out]; exact e)).1⟩
        have h1 := HR6.out
        unfold msort at h1
        rw [compact_msort, HFIN2.out] at h1
        exact h1
      · have e1 : ¬ (0 : Int) ≤ (k : Int) - 1 := by omega
        have hfin : sortedF out = res := HFIN.out
        have ho40 := HO40.out
        have HFIN2 := Lib.hid hfin
        have HSRT := Lib.hid (sort_calls wr u8 out HC.out.row ho40)
        obtain ⟨OA, oc, hu8, _⟩ := sees_slice HC.out.row.sees
        subst hu8
        clear hfin ho40
        go_wp2_with fail
        clear d0 d5 d6 hH
        refine HSRT.out.mono ?_
        rintro e w5 ⟨rfl, hr5, hf5⟩
        have HF5 := Lib.hid (HC.out.frm.trans hf5 fun x hx e => by have := (HC.out.own x e).1; omega)
        have HCMP := Lib.hid (compact_calls w5 _ (msort out) hr5)
        clear hr5 hf5
        dsimp only
        go_wp2_with fail
        refine HCMP.out.mono ?_
        rintro e w6 ⟨v6, rfl, hr6, hf6, ho6⟩
        have HF6 := Lib.hid (HF5.out.trans hf6 fun x hx e => by have := (HC.out.own x e).1; omega)
        have HR6 := Lib.hid hr6
        have HO6 := Lib.hid ho6
        clear hr6 hf6 ho6
        dsimp only
        go_wp2
        go_ret
        refine ⟨v6, rfl, ?_, HF6.out, fun g e => (HC.out.own g (by rw [← HO6.out]; exact e)).1⟩
        have h1 := HR6.out
        unfold msort at h1
        rw [compact_msort, HFIN2.out] at h1
        exact h1
    · obtain ⟨gm, cm, hmv, _, _, xm, _⟩ := row_at hH.limits (k := 0) (by omega)
      injection hmv with ha hb hc
      subst ha
      subst hc
      obtain ⟨b, hb0⟩ : ∃ b, b = s.limits[0]'(by omega) := ⟨_, rfl⟩
      rw [← hb0] at xm
      have hhd : s.limits.head? = some b := by rw [List.head?_eq_getElem?, List.getElem?_eq_getElem (by omega), hb0]
      have hcr : 0 ≤ b ∧ (coreL s assume why out (((s.trail.take k).drop b.toNat).reverse)).bind (fun o => if roomB o.length then some (sortedF o) else none) = some res := by have h1 := HR.out; unfold CoreRest at h1; rw [hhd] at h1; exact h1
      have hlI : (0 : Int) < (s.limits.length : Int) := by omega
      have HHD := Lib.hid hhd
      have HCR := Lib.hid hcr.2
      have hb0' := hcr.1
      clear hb0 hhd hb HR hl0
      by_cases hkb : b ≤ (k : Int) - 1
      · obtain ⟨K, rfl⟩ : ∃ K, k = K + 1 := ⟨k - 1, by omega⟩
        rw [show ((K + 1 : Nat) : Int) - 1 = (K : Int) by omega] at hkb ⊢
        have e1 : (0 : Int) ≤ (K : Int) := by omega
        obtain ⟨m, hm⟩ : ∃ m, s.trail[K]? = some m := ⟨_, List.getElem?_eq_getElem (by omega)⟩
        have e := HCR.out
        rw [take_last hm (b := b.toNat) (by omega)] at e
        unfold coreL at e
        split at e
        case isTrue => cases e
        rename_i hgd
        have hgd' : smlB m = true ∧ roomB out.length = true := by simpa using hgd
        have hsm := sml_of hgd'.1
        obtain ⟨q2, hq2⟩ : ∃ q2 : Nat, ofF m = q2 := ⟨(ofF m).toNat, by have := (of_abs hsm).1; omega⟩
        have HO := Lib.hid (fun w1 => of_calls w1 m hsm)
        have HQ2 := Lib.hid hq2
        rw [hq2] at HO e
        obtain ⟨gt, ct, htv, _, _, xt, _⟩ := row_at hH.trail (k := K) (by omega)
        injection htv with ha hb hc
        subst ha
        subst hc
        rw [Option.some.inj ((List.getElem?_eq_getElem _).symm.trans hm)] at xt
        have hKI : (K : Int) < (s.trail.length : Int) := by omega
        have HE := Lib.hid e
        have HRM := Lib.hid (room_of hgd'.2)
        have HMm := Lib.hid hm
        have hwk : wrap64 ((K : Int) - 1) = (K : Int) - 1 := by unfold wrap64; omega
        have HWK := Lib.hid hwk
        clear e hgd hgd' hm hsm hq2 hb hwk
        go_wp2_with fail
        refine (HO.out _).mono ?_
        rintro e3 w3 ⟨rfl, hf⟩
        have HC3 := Lib.hid (HC.out.frm0 hf)
        have d0 := frm_cell hf d0
        clear hf HC hH d5 d6 xm xt
        dsimp only
        have hlk := HC3.out.seen.look (q2 : Int)
        by_cases hsn : (q2 : Int) ∈ why
        · rw [decide_eq_true hsn] at hlk
          have e := HE.out
          rw [if_pos hsn] at e
          split at e
          case h_1 => cases e
          rename_i a ha
          have hH3 := HH.out.frm0 HC3.out.frm
          obtain ⟨q3, g3, c3, hq3, hkl3, hml3, hvv, hrg3, _, _, x2, _⟩ := fact_cells hH3 ha
          subst hvv
          have hqq : q3 = q2 := by have := HQ2.out; omega
          subst hqq
          have hqI : (q3 : Int) < (s.vars.length : Int) := by omega
          have HE2 := Lib.hid e
          clear hq3 hml3 hrg3 hkl3 hsn e
          go_wp2_with fail
          refine Plan.wp_region_plan [0, 1, 3, 7, 0, 16, 63, 127, 255, 511] [.mk [0, 1, 2, 3, 4] 5 [0, 1, 2, 3]] [6, 7, 8, 9] (by kernel_rfl) (by kernel_rfl) ?_
          simp only [Plan.wayOf, Plan.pickAll, List.getElem?_cons_zero, List.getElem?_cons_succ, List.getD_eq_getElem?_getD, Option.getD_some]
          refine Plan.wpWay_seg ?_
          repeat go_big_quiet_step (fail)
          refine wpQuiet_nil ?_; refine Plan.wpWay_act ?_
          go_wp2_with fail
          refine (HO.out _).mono ?_
          rintro e w5 ⟨rfl, hf⟩
          have HF5 := Lib.hid (show Frm (fun _ => False) w3 w5 from frm_then (Frm.refl _ _).drew hf)
          have d0 := frm_cell HF5.out d0
          have x2 := frm_cell HF5.out x2
          clear hf
          dsimp only
          go_wp2_with fail
          refine And.intro ?_ ?_; focus ((iterate 4 (refine Plan.again_cons ?_ ?_; focus (go_big_quiet_step (fail); exact wpQuiet_nil rfl))); exact Plan.again_nil)
          refine Plan.wpWay_last ?_
          repeat go_big_quiet_step (fail)
          refine wpQuiet_nil ?_; refine NoPanic.normal ?_
          have HC5 := Lib.hid (HC3.out.frm0 HF5.out)
          clear HC3 HO HF5 d0 x2 hlk hH3
          obtain ⟨rs, hrs⟩ : ∃ rs, rs = a.reason := ⟨_, rfl⟩
          have e := HE2.out
          rw [← hrs] at e ⊢
          cases rs with
          | none =>
            simp only at e
            have HK1 := Lib.hid (contains_calls w5 (.slice AA assume.length ac) assume m (HA.out.frm HC5.out.frm fun _ _ _ => id))
            by_cases hma : m ∈ assume
            · rw [if_pos hma] at e
              have HRE : Hid (CoreRest s assume K why (out ++ [m]) res) := Lib.hid (by unfold CoreRest; rw [HHD.out]; exact ⟨hb0', e⟩)
              obtain ⟨LA, lc, hu8, _⟩ := sees_slice HC5.out.row.sees
              subst hu8
              rw [decide_eq_true hma] at HK1
              clear e hrs hma
              have hrn : encR ids none = .pointer none := rfl
              rw [hrn]
              go_wp2_with fail
              refine HK1.out.mono ?_
              rintro e5 w6 ⟨rfl, rfl⟩
              dsimp only
              go_wp2_with (at_builtin; refine wpList_append_row rfl _ _ 26 rfl 3 i0 (.int .i64 0) 8 Try.underlying26 hi hz0 hz1 hz2 rfl (enc := iI) (.slice LA out.length lc) out rfl (HC5.out.row.frm0 (frm_alloc w6 (.cells #[.int .i64 m] 3))) ⟨w6.heap.size, 0, none⟩ 1 m rfl ?c1 rfl ?c2 ?c3 ?_)
              case c1 => exact blk_cell (blk_new _) 0
              case c2 => have := HRM.out; have : maxLen = 9223372036854775807 := rfl; omega
              case c3 => have := HRM.out; omega
              intro g7 cap7 w7 hrow hfr hg hlt7
              obtain ⟨n7, hn7⟩ : ∃ n7, n7 = out.length + 1 := ⟨_, rfl⟩
              rw [← hn7] at hrow ⊢
              have HC7 := Lib.hid (HC5.out.put hrow hfr hg)
              clear hrow hfr hg hlt7 hn7 HC5
              go_wp2
              go_roundw
              case rel => exact ⟨K, rfl, by omega, why, out ++ [m], HRE, HC7⟩
              case measure => simp only [intOf]; omega
            · rw [if_neg hma] at e
              have HRE : Hid (CoreRest s assume K why out res) := Lib.hid (by unfold CoreRest; rw [HHD.out]; exact ⟨hb0', e⟩)
              rw [decide_eq_false hma] at HK1
              clear e hrs hma
              have hrn : encR ids none = .pointer none := rfl
              rw [hrn]
              go_wp2_with fail
              refine HK1.out.mono ?_
              rintro e5 w6 ⟨rfl, rfl⟩
              dsimp only
              go_wp2
              go_roundw
              case rel => exact ⟨K, rfl, by omega, why, out, HRE, HC5⟩
              case measure => simp only [intOf]; omega
          | some c =>
            simp only at e
            split at e
            case h_1 => cases e
            rename_i x hx
            split at e
            case isFalse => cases e
            rename_i hall
            have HRE : Hid (CoreRest s assume K ((x.lits.map ofF).reverse ++ why) out res) := Lib.hid (by unfold CoreRest; rw [HHD.out]; exact ⟨hb0', e⟩)
            have hH5 := HH.out.frm0 HC5.out.frm
            obtain ⟨bc, hbc1, hbc2, _⟩ := hH5.clAt (List.getElem?_eq_some_iff.1 hx).1
            obtain ⟨x', vx, hcl, hblk, hrow, hrol⟩ := hH5.cl_at hbc2
            have hxx : x' = x := Option.some.inj (hcl.symm.trans hx)
            subst hxx
            obtain ⟨XA, xc, hvx, _⟩ := sees_slice hrow.sees
            subst hvx
            have hrn : encR ids (some c) = .pointer (some ⟨bc, 0, none⟩) := hbc1
            rw [hrn]
            have b0 : w5.cell? ⟨bc, 0, none⟩ = some (.slice XA x'.lits.length xc) := blk_cell hblk 0
            have HROW := Lib.hid hrow
            have HROL := Lib.hid hrol
            have HALL := Lib.hid hall
            have hl63 : x'.lits.length ≤ 9223372036854775807 := hrow.sees.len
            clear e hrs hx hall hH5 hbc1 hbc2 hcl hblk hrow hrol hrn
            go_wp2_with fail
            clear b0
            go_loopw [76] (fun v76 w' => ∃ j : Nat, v76 = .int .i64 j ∧ j ≤ x'.lits.length ∧ Hid (Cor w w' w.heap.size (((x'.lits.take j).map ofF).reverse ++ why) u8 out)) (fun v76 _ => x'.lits.length - (intOf v76).toNat)
            case atStart => exact ⟨0, rfl, by omega, Lib.hid (by simpa using HC5.out)⟩
            case round =>
              obtain ⟨j, rfl, hj, HCj⟩ := hrel
              by_cases hjl : j < x'.lits.length
              · have hjI : (j : Int) < (x'.lits.length : Int) := by omega
                obtain ⟨m2, hm2⟩ : ∃ m2, x'.lits[j]? = some m2 := ⟨_, List.getElem?_eq_getElem hjl⟩
                obtain ⟨gx, rfl, xj⟩ : ∃ gx, XA = some ⟨gx, 0, none⟩ ∧ wr.cell? ⟨gx, j, none⟩ = some (iI m2) := by
                  rcases HROW.out.shape with ⟨_, e⟩ | ⟨gx, cx, e, ho, _, _, hc, _⟩
                  · rw [e] at hjl; simp at hjl
                  · injection e with ea eb ec
                    refine ⟨gx, ea, ?_⟩
                    have hlt := HH.out.lt gx _ (HROL.out gx ho)
                    have h1 := HCj.out.frm.block gx hlt id
                    have h2 := HC5.out.frm.block gx hlt id
                    have hc1 := hc j m2 hm2
                    rw [← hc1]
                    simp only [World.cell?, h1, h2]
                have hsm2 := sml_of (List.all_eq_true.1 HALL.out m2 (List.mem_of_getElem? hm2))
                obtain ⟨q5, hq5⟩ : ∃ q5 : Nat, ofF m2 = q5 := ⟨(ofF m2).toNat, by have := (of_abs hsm2).1; omega⟩
                have HO := Lib.hid (fun w1 => of_calls w1 m2 hsm2)
                rw [hq5] at HO
                have HNEXT : Hid (((x'.lits.take (j + 1)).map ofF).reverse ++ why = (q5 : Int) :: (((x'.lits.take j).map ofF).reverse ++ why)) := Lib.hid (by rw [List.take_add_one, hm2]; simp [hq5])
                clear hm2 hsm2 hq5
                go_wp2_with fail
                refine (HO.out _).mono ?_
                rintro e6 w6 ⟨rfl, hf⟩
                have HC6 := Lib.hid (HCj.out.frm0 hf)
                obtain ⟨kvsS, hmS, hgS⟩ := HC6.out.seen
                have HMS := Lib.hid hmS
                have HGS := Lib.hid hgS
                clear hf HCj HO xj hmS hgS
                dsimp only
                go_wp2_with (at_mapUpdate; refine wpList_update rfl _ _ _ 79 rfl keyInt Try.underlying79 (ev := Value.bool) (q5 : Int) true rfl rfl rfl HMS.out ?_)
                intro w7 hm7 hg7
                have HC7 : Hid (Cor w w7 w.heap.size (((x'.lits.take (j + 1)).map ofF).reverse ++ why) u8 out) := Lib.hid (by rw [HNEXT.out]; exact HC6.out.see HGS.out hm7 hg7)
                clear hm7 hg7 HMS HGS HC6 HNEXT
                go_wp2
                go_roundw
                case rel => exact ⟨j + 1, rfl, hjl, HC7⟩
                case measure => simp only [intOf]; omega
              · have hjI : ¬ (j : Int) < (x'.lits.length : Int) := by omega
                have HC8 : Hid (Cor w wr w.heap.size ((x'.lits.map ofF).reverse ++ why) u8 out) := Lib.hid (by have := HCj.out; rw [List.take_of_length_le (by omega)] at this; exact this)
                clear HCj HC5
                go_wp2
                go_roundw
                case rel => exact ⟨K, rfl, by omega, _, out, HRE, HC8⟩
                case measure => simp only [intOf]; omega
        · rw [decide_eq_false hsn] at hlk
          have e := HE.out
          rw [if_neg hsn] at e
          have HRE : Hid (CoreRest s assume K why out res) := Lib.hid (by unfold CoreRest; rw [HHD.out]; exact ⟨hb0', e⟩)
          clear hsn e d0
          go_wp2
          go_roundw
          case rel => exact ⟨K, rfl, by omega, why, out, HRE, HC3⟩
          case measure => simp only [intOf]; omega
      · have hkb' : ¬ b ≤ (k : Int) - 1 := hkb
        have e := HCR.out
        rw [List.drop_eq_nil_of_le (by simp; omega)] at e
        simp only [List.reverse_nil, coreL, Option.bind_some] at e
        split at e
        case isFalse => cases e
        rename_i hro
        have HFIN := Lib.hid (Option.some.inj e)
        have HO40 := Lib.hid (room_of hro)
        clear e hro
        by_cases hk0 : 1 ≤ k
        · have e1 : (0 : Int) ≤ (k : Int) - 1 := by omega
          have hfin : sortedF out = res := HFIN.out
          have ho40 := HO40.out
          have HFIN2 := Lib.hid hfin
          have HSRT := Lib.hid (sort_calls wr u8 out HC.out.row ho40)
          obtain ⟨OA, oc, hu8, _⟩ := sees_slice HC.out.row.sees
          subst hu8
          clear hfin ho40
          go_wp2_with fail
          clear d0 d5 d6 hH
          refine HSRT.out.mono ?_
          rintro e w5 ⟨rfl, hr5, hf5⟩
          have HF5 := Lib.hid (HC.out.frm.trans hf5 fun x hx e => by have := (HC.out.own x e).1; omega)
          have HCMP := Lib.hid (compact_calls w5 _ (msort out) hr5)
          clear hr5 hf5
          dsimp only
          go_wp2_with fail
          refine HCMP.out.mono ?_
          rintro e w6 ⟨v6, rfl, hr6, hf6, ho6⟩
          have HF6 := Lib.hid (HF5.out.trans hf6 fun x hx e => by have := (HC.out.own x e).1; omega)
          have HR6 := Lib.hid hr6
          have HO6 := Lib.hid ho6
          clear hr6 hf6 ho6
          dsimp only
          go_wp2
          go_ret
          refine ⟨v6, rfl, ?_, HF6.out, fun g e => (HC.out.own g (by rw [← HO6.out]; exact e)).1⟩
          have h1 := HR6.out
          unfold msort at h1
          rw [compact_msort, HFIN2.out] at h1
          exact h1
        · have e1 : ¬ (0 : Int) ≤ (k : Int) - 1 := by omega
          have hfin : sortedF out = res := HFIN.out
          have ho40 := HO40.out
          have HFIN2 := Lib.hid hfin
          have HSRT := Lib.hid (sort_calls wr u8 out HC.out.row ho40)
          obtain ⟨OA, oc, hu8, _⟩ := sees_slice HC.out.row.sees
          subst hu8
          clear hfin ho40
          go_wp2_with fail
          clear d0 d5 d6 hH
          refine HSRT.out.mono ?_
          rintro e w5 ⟨rfl, hr5, hf5⟩
          have HF5 := Lib.hid (HC.out.frm.trans hf5 fun x hx e => by have := (HC.out.own x e).1; omega)
          have HCMP := Lib.hid (compact_calls w5 _ (msort out) hr5)
          clear hr5 hf5
          dsimp only
          go_wp2_with fail
          refine HCMP.out.mono ?_
          rintro e w6 ⟨v6, rfl, hr6, hf6, ho6⟩
          have HF6 := Lib.hid (HF5.out.trans hf6 fun x hx e => by have := (HC.out.own x e).1; omega)
          have HR6 := Lib.hid hr6
          have HO6 := Lib.hid ho6
          clear hr6 hf6 ho6
          dsimp only
          go_wp2
          go_ret
          refine ⟨v6, rfl, ?_, HF6.out, fun g e => (HC.out.own g (by rw [← HO6.out]; exact e)).1⟩
          have h1 := HR6.out
          unfold msort at h1
          rw [compact_msort, HFIN2.out] at h1
          exact h1
end
end SaW
end Go.Proofs.Ytfpjfogddepbkaa
/- cnf.Clean, walked. -/
namespace Go.Proofs.Ytfpjfogddepbkaa
open Go.RowKit Go.Mem Go.Sat
namespace SaW
theorem insert_len (x : Int) : ∀ (l : List Int), (insertF x l).length ≤ l.length + 1
  | [] => by simp [insertF]
  | a :: l => by
    unfold insertF
    split
    · simp
    · split
      · simp
      · simp; exact insert_len x l
theorem sortedF_len : ∀ (l : List Int), (sortedF l).length ≤ l.length
  | [] => by simp [sortedF]
  | x :: l => by
    have h1 := insert_len x (sortedF l)
    have h2 := sortedF_len l
    show (insertF x (sortedF l)).length ≤ _
    simp
    omega
set_option maxRecDepth 100000 in
set_option maxHeartbeats 2000000 in
theorem clean_calls (w : World) (v : Value) (l : List Int) (hv : Sees w iI v l) (hn : l.length ≤ 1099511627776) (hsm : ∀ x ∈ l, Sml x) : Calls Try.prog 24 #[v] w fun e w' => ∃ v', e = .returned (.tuple #[v', .bool (cleanF l).isSome]) ∧ Row w' 3 iI v' ((cleanF l).getD []) ∧ Frm (fun _ => False) w w' ∧ ∀ g, v'.ownBlock = some g → w.heap.size ≤ g := by
  have HC := Lib.hid (clone_calls w v l hv hn)
  have HN := Lib.hid hn
  obtain ⟨VA, vc, rfl, _⟩ := sees_slice hv
  obtain ⟨c, hc⟩ : ∃ c, c = sortedF l := ⟨_, rfl⟩
  obtain ⟨cl, hcl⟩ : ∃ cl, cl = clashF c c := ⟨_, rfl⟩
  have HSM : Hid (∀ x ∈ c, Sml x) := Lib.hid fun x hx => hsm x ((sortedF_mem l x).1 (by rw [← hc]; exact hx))
  have HCL : Hid (cleanF l = if cl then none else some c) := Lib.hid (by unfold cleanF; rw [hcl, hc])
  have HC0 := Lib.hid hc
  have HCL0 := Lib.hid hcl
  have hc63 : c.length ≤ 9223372036854775807 := by rw [hc]; have := sortedF_len l; omega
  clear hv hn hsm hc hcl
  go_enter Try.func24, Try.ntmps24
  go_wp2_with fail
  refine HC.out.mono ?_
  rintro e w1 ⟨v1, rfl, hr1, hf1, ho1⟩
  have HS := Lib.hid (sort_calls w1 v1 l hr1 HN.out)
  have HF1 := Lib.hid hf1
  have HO1 := Lib.hid ho1
  clear hr1 hf1 ho1 HC
  dsimp only
  go_wp2_with fail
  refine HS.out.mono ?_
  rintro e w2 ⟨rfl, hr2, hf2⟩
  have HF2 := Lib.hid (HF1.out.trans hf2 fun x hx e => by have := HO1.out x e; omega)
  have HK := Lib.hid (compact_calls w2 v1 (msort l) hr2)
  clear hr2 hf2 HS
  dsimp only
  go_wp2_with fail
  refine HK.out.mono ?_
  rintro e w3 ⟨v3, rfl, hr3, hf3, ho3⟩
  have HF3 := Lib.hid (HF2.out.trans hf3 fun x hx e => by have := HO1.out x e; omega)
  unfold msort at hr3
  rw [compact_msort, ← HC0.out] at hr3
  have HR3 := Lib.hid hr3
  have HO3 : Hid (∀ g, v3.ownBlock = some g → w.heap.size ≤ g) := Lib.hid fun g e => HO1.out g (by rw [← ho3]; exact e)
  obtain ⟨CA, cc, hv3, hcell⟩ := sees_slice hr3.sees
  have HCE := Lib.hid hcell
  subst hv3
  clear hr3 hf3 ho3 HK HF1 HF2 HO1 hcell
  dsimp only
  go_wp2_with fail
  go_loopw [14] (fun v14 w' => w' = w3 ∧ ∃ j : Nat, v14 = .int .i64 j ∧ j ≤ c.length ∧ Hid (clashF (c.drop j) c = cl)) (fun v14 _ => c.length - (intOf v14).toNat)
  case atStart => exact ⟨rfl, 0, rfl, by omega, Lib.hid HCL0.out.symm⟩
  case round =>
    obtain ⟨rfl, j, rfl, hj, HCJ⟩ := hrel
    by_cases hjl : j < c.length
    · have hjI : (j : Int) < (c.length : Int) := by omega
      obtain ⟨n, hn⟩ : ∃ n, c[j]? = some n := ⟨_, List.getElem?_eq_getElem hjl⟩
      obtain ⟨g, o, rfl, xj⟩ := HCE.out j n hn
      have hsm := HSM.out n (List.mem_of_getElem? hn)
      have hneg : wrap64 (-n) = -n := by unfold Sml at hsm; unfold wrap64; omega
      have e := HCJ.out
      rw [List.drop_eq_getElem_cons hjl, Option.some.inj ((List.getElem?_eq_getElem hjl).symm.trans hn)] at e
      unfold clashF at e
      have HE := Lib.hid e
      clear e hn hsm
      by_cases hn0 : n = -n
      · have e1 : (n != wrap64 (-n)) = false := by rw [hneg]; simpa using hn0
        have e := HE.out
        rw [decide_eq_false (fun h => h.1 hn0), Bool.false_or] at e
        have HE2 := Lib.hid e
        clear e hn0 hneg
        go_wp2
        go_roundw
        case rel => exact ⟨trivial, j + 1, rfl, hjl, HE2⟩
        case measure => simp only [intOf]; omega
      · have e1 : (n != wrap64 (-n)) = true := by rw [hneg]; simpa using hn0
        have HK := Lib.hid (contains_calls wr _ c (wrap64 (-n)) HR3.out.sees)
        have e := HE.out
        by_cases hin : -n ∈ c
        · rw [show decide (wrap64 (-n) ∈ c) = true by rw [hneg]; exact decide_eq_true hin] at HK
          rw [decide_eq_true (And.intro hn0 hin), Bool.true_or] at e
          have h1 := HCL.out
          rw [← e] at h1
          simp only [if_true] at h1
          have HH1 := Lib.hid h1
          clear e h1 hin hn0 hneg
          go_wp2_with fail
          refine HK.out.mono ?_
          rintro e4 w4 ⟨rfl, rfl⟩
          dsimp only
          go_wp2
          go_ret2
          rw [HH1.out]
          exact ⟨_, rfl, Row.nil _ _ _, HF3.out, fun g e => by cases e⟩
        · rw [show decide (wrap64 (-n) ∈ c) = false by rw [hneg]; exact decide_eq_false hin] at HK
          rw [decide_eq_false (fun h => hin h.2), Bool.false_or] at e
          have HE2 := Lib.hid e
          clear e hin hn0 hneg
          go_wp2_with fail
          refine HK.out.mono ?_
          rintro e4 w4 ⟨rfl, rfl⟩
          dsimp only
          go_wp2
          go_roundw
          case rel => exact ⟨trivial, j + 1, rfl, hjl, HE2⟩
          case measure => simp only [intOf]; omega
    · have hjI : ¬ (j : Int) < (c.length : Int) := by omega
      have e := HCJ.out
      rw [List.drop_eq_nil_of_le (by omega)] at e
      simp only [clashF] at e
      have h1 := HCL.out
      rw [← e] at h1
      simp only [Bool.false_eq_true, if_false] at h1
      have HH1 := Lib.hid h1
      clear e h1 HCE
      go_wp2
      go_ret2
      rw [HH1.out]
      exact ⟨_, rfl, HR3.out, HF3.out, HO3.out⟩
end SaW
end Go.Proofs.Ytfpjfogddepbkaa
/- The closures of Add; slices.IndexFunc, ContainsFunc with closures that draw, walked. -/
namespace Go.Proofs.Ytfpjfogddepbkaa
open Go.RowKit Go.Mem Go.Sat
namespace SaW
/-- A closure tells q of each of these numbers, whenever asked behind w. -/
def Tells (w : World) (fid : FuncId) (cap : Array Value) (q : Int → Bool) (xs : List Int) : Prop := ∀ x ∈ xs, ∀ w', Frm (fun _ => False) w w' → Calls Try.prog fid (#[.int .i64 x] ++ cap) w' fun e w'' => e = .returned (.bool (q x)) ∧ Frm (fun _ => False) w' w''
theorem Tells.frm {w w' : World} {fid : FuncId} {cap : Array Value} {q : Int → Bool} {xs : List Int} (h : Tells w fid cap q xs) (hf : Frm (fun _ => False) w w') : Tells w' fid cap q xs := fun x hx w2 h2 => h x hx w2 (frm_then hf h2)
set_option maxHeartbeats 1000000 in
theorem idxF_calls (fid : FuncId) (cap : Array Value) (q : Int → Bool) (v : Value) (xs : List Int) (w : World) (hv : Sees w iI v xs)
    (hcf : ∀ (x : Int) (w : World), (callFunc fid (#[.int .i64 x] ++ cap)).run Try.prog w = .ok (.enter fid (#[.int .i64 x] ++ cap)) w)
    (hq : Tells w fid cap q xs) :
    Calls Try.prog 50 #[v, .func (.func fid) #[] cap] w fun e w' => e = .returned (.int .i64 (Sl.idx q xs)) ∧ Frm (fun _ => False) w w' := by
  have Hq := Lib.hid hq
  have hlen : (xs.length : Int) ≤ 9223372036854775807 := by have := hv.len; have h : maxLen = 9223372036854775807 := rfl; omega
  have HV := Lib.hid hv
  obtain ⟨A, c, rfl, _⟩ := sees_slice hv
  clear hq hv
  go_enter Try.func50, Try.ntmps50
  go_wp2_with fail
  go_loopw [8] (fun v8 w' => ∃ k : Nat, k ≤ xs.length ∧ v8 = .int .i64 k ∧ Hid (Sl.Before q xs k) ∧ Hid (Frm (fun _ => False) w w')) (fun v8 _ => xs.length - (intOf v8).toNat)
  case atStart => exact ⟨0, Nat.zero_le _, rfl, Lib.hid (.zero _ _), Lib.hid (Frm.refl _ _)⟩
  case round =>
    obtain ⟨k, hk, rfl, HB, HF⟩ := hrel
    by_cases hlt : k < xs.length
    · have hx : xs[k]? = some xs[k] := List.getElem?_eq_getElem hlt
      have hs := HV.out.frm HF.out fun _ _ _ => id
      obtain ⟨A', c', e1, hcell⟩ := sees_slice hs
      injection e1 with ea eb ec
      obtain ⟨g, o, hA, xk⟩ := hcell k _ hx
      rw [← ea] at hA
      subst hA
      have HC := Lib.hid (Hq.out xs[k] (List.getElem_mem hlt) wr HF.out)
      generalize xs[k] = x at *
      have Hx := Lib.hid hx
      have hltI : (k : Int) < (xs.length : Int) := by omega
      clear hx hs hcell ea eb ec
      go_wp2_with fail
      refine HC.out.mono ?_
      rintro e w' ⟨rfl, hf⟩
      have HF2 := Lib.hid (frm_then HF.out hf)
      clear hf xk HC
      dsimp only
      cases hqx : q x with
      | true =>
        have hfin := Lib.hid (Sl.idx_hit Hx.out hqx HB.out)
        clear hqx
        go_wp2
        go_ret
        exact ⟨by rw [hfin.out]; rfl, HF2.out⟩
      | false =>
        have hfin := Lib.hid (HB.out.succ Hx.out hqx)
        clear hqx
        go_wp2
        go_roundw
        case rel => exact ⟨k + 1, by omega, rfl, hfin, HF2⟩
        case measure => simp only [intOf]; omega
    · have hke : k = xs.length := by omega
      have hfin := Lib.hid (Sl.idx_miss (q := q) (xs := xs) (by rw [← hke]; exact HB.out))
      have hltI : ¬ (k : Int) < (xs.length : Int) := by omega
      clear hke
      go_wp2
      go_ret
      exact ⟨by rw [hfin.out]; rfl, HF.out⟩
theorem anyF_calls (fid : FuncId) (cap : Array Value) (q : Int → Bool) (v : Value) (xs : List Int) (w : World) (hv : Sees w iI v xs)
    (hcf : ∀ (x : Int) (w : World), (callFunc fid (#[.int .i64 x] ++ cap)).run Try.prog w = .ok (.enter fid (#[.int .i64 x] ++ cap)) w)
    (hq : Tells w fid cap q xs) :
    Calls Try.prog 25 #[v, .func (.func fid) #[] cap] w fun e w' => e = .returned (.bool (xs.any q)) ∧ Frm (fun _ => False) w w' := by
  have Hi := Lib.hid (idxF_calls fid cap q v xs w hv hcf hq)
  have hfin := Lib.hid (Sl.idx_any q xs)
  clear hv hcf hq
  generalize Sl.idx q xs = r at *
  go_enter Try.func25, Try.ntmps25
  go_wp2_with fail
  refine Hi.out.mono ?_
  rintro e w' ⟨rfl, hf⟩
  have HF := Lib.hid hf
  clear hf
  dsimp only
  go_wp2
  go_ret
  exact ⟨by rw [← hfin.out]; rfl, HF.out⟩
section
variable {w : World} {R : Nat → Option Role} {p : Nat} {s : St}
theorem is1_calls (h : SolverAt w R p s) (bx : Nat) (hx : w.cell? ⟨bx, 0, none⟩ = some (.pointer (some ⟨p, 0, none⟩))) (n v : Int) (hv : valueF s n = some v) : Calls Try.prog 26 #[.int .i64 n, .pointer (some ⟨bx, 0, none⟩)] w fun e w' => e = .returned (.bool (v == 1)) ∧ Frm (fun _ => False) w w' := by
  have hn := value_sml hv
  have HC := Lib.hid (value_calls h n v hv)
  clear h hv
  go_enter Try.func26, Try.ntmps26
  go_wp2_with fail
  refine HC.out.mono ?_
  rintro e w' ⟨rfl, hf⟩
  have HF := Lib.hid hf
  clear hf
  dsimp only
  go_wp2
  go_ret
  exact ⟨rfl, HF.out⟩
theorem is0_calls (h : SolverAt w R p s) (bx : Nat) (hx : w.cell? ⟨bx, 0, none⟩ = some (.pointer (some ⟨p, 0, none⟩))) (n v : Int) (hv : valueF s n = some v) : Calls Try.prog 29 #[.int .i64 n, .pointer (some ⟨bx, 0, none⟩)] w fun e w' => e = .returned (.bool (v == -1)) ∧ Frm (fun _ => False) w w' := by
  have hn := value_sml hv
  have HC := Lib.hid (value_calls h n v hv)
  clear h hv
  go_enter Try.func29, Try.ntmps29
  go_wp2_with fail
  refine HC.out.mono ?_
  rintro e w' ⟨rfl, hf⟩
  have HF := Lib.hid hf
  clear hf
  dsimp only
  go_wp2
  go_ret
  exact ⟨rfl, HF.out⟩
theorem lit_eq {s : St} {n v u : Int} (h : valueF s n = some v) : litF s u n = (v == u) := by
  unfold litF
  rw [h]
  by_cases e : v = u
  · subst e; simp
  · simp [e]
theorem tells1 (h : SolverAt w R p s) (bx : Nat) (hx : w.cell? ⟨bx, 0, none⟩ = some (.pointer (some ⟨p, 0, none⟩))) (c : List Int) (hk : knownF s c = true) : Tells w 26 #[.pointer (some ⟨bx, 0, none⟩)] (litF s 1) c := fun x hxc w' hf => by
  obtain ⟨v, hv⟩ := Option.isSome_iff_exists.1 (List.all_eq_true.1 hk x hxc)
  rw [lit_eq hv]
  exact is1_calls (h.frm0 hf) bx (frm_cell hf hx) x v hv
theorem tells0 (h : SolverAt w R p s) (bx : Nat) (hx : w.cell? ⟨bx, 0, none⟩ = some (.pointer (some ⟨p, 0, none⟩))) (c : List Int) (hk : knownF s c = true) : Tells w 29 #[.pointer (some ⟨bx, 0, none⟩)] (litF s (-1)) c := fun x hxc w' hf => by
  obtain ⟨v, hv⟩ := Option.isSome_iff_exists.1 (List.all_eq_true.1 hk x hxc)
  rw [lit_eq hv]
  exact is0_calls (h.frm0 hf) bx (frm_cell hf hx) x v hv
end
end SaW
end Go.Proofs.Ytfpjfogddepbkaa
