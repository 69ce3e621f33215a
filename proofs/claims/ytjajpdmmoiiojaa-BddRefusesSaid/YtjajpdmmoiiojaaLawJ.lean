/- The arguments of the laws, opened: acts in a slice; and shut again behind the call. -/
import Derived.Test.YtjajpdmmoiiojaaLawW4
import Derived.Test.YtjajpdmmoiiojaaChecked
import Derived.Deep.Slices
import Derived.Deep.Fields
import Derived.ChangeSame
import Derived.ChangeAlike
import Derived.ReadAgain
import Derived.Below
import Derived.ProofKit
import Derived.OpenShut
namespace Go.Proofs.Ytjajpdmmoiiojaa
open Go.RowKit Go.Mem Go.Bdd Go.ChangeShapes Go.WideShapes Go.Deep
namespace LawW
section
variable {H : Type} {enc : TypeId × Value → H} {P : Program} {w W W' : World} {base : Nat} {spare : Nat → Bool} {held : Bool}
theorem add_at {a : Addr} (h : a.spot = none) (j : Nat) : a.add j = ⟨a.block, a.off + j, none⟩ := by
  unfold Addr.add
  split
  · rename_i h0; subst h0; cases a; simp_all
  · rfl
/-- A struct of one-cell fields, field by field. -/
theorem fields_read {t : TypeId} {fs : Array Field} {fuel : Nat} {cs : List Value} {x : DataW H × List MemPlace} (he : P.underlying t = some (.struct fs)) (hone : oneCellFields P fs = true) (hl : cs.length = fs.size) (h : DataW.trod enc P w base spare held fuel t cs = some x) :
    ∃ n, ∀ (j : Nat) (f : Field), fs[j]? = some f → ∃ v y, cs[j]? = some v ∧ DataW.trod enc P w base spare held n f.type [v] = some y := by
  obtain ⟨xs, n, _, _, _, hlen, hat⟩ := DataW.trod_struct he h
  refine ⟨n, fun j f hf => ?_⟩
  obtain ⟨ho, hc⟩ := hone_of hone j f hf
  have hj : j < fs.size := (Array.getElem?_eq_some_iff.1 hf).1
  have h1 := hat j f hf
  rw [ho, hc, List.drop_eq_getElem_cons (by omega), List.getElem?_eq_getElem (by omega)] at h1
  exact ⟨_, _, List.getElem?_eq_getElem (by omega), h1⟩
theorem ints_read {t e : TypeId} {fuel : Nat} {v : Value} {x : DataW H × List MemPlace} (ht : P.underlying t = some (.slice e)) (he : P.underlying e = some (.int .i64)) (hc : P.cellsOf e = 1) (h : DataW.trod enc P w base spare held fuel t [v] = some x) :
    ∃ zs : List Int, SeesW w (Value.int .i64) v zs ∧ ∀ z ∈ zs, I64 z := by
  rcases open_ints ht he hc h with ⟨e, _⟩ | ⟨a, len, cap, zs, e, _, hl, hm, hz, _, hat, hwf⟩
  · cases e
    exact ⟨[], ⟨none, 0, rfl, Nat.zero_le _, fun i x hx => by simp at hx⟩, fun z hz => by simp at hz⟩
  · cases e
    have hzl : len ≤ zs.length := by rw [hz]; split <;> omega
    refine ⟨zs.take len, ⟨some a, cap, by rw [List.length_take, Nat.min_eq_left hzl], by rw [List.length_take]; omega, fun i x hx => ?_⟩, fun z hz' => ?_⟩
    · have hi : i < len := by
        have := (List.getElem?_eq_some_iff.1 hx).1
        rw [List.length_take] at this; omega
      rw [List.getElem?_take_of_lt hi] at hx
      have h0 := hat i (by omega)
      have hs : a.spot = none := World.cell?_spot (hat 0 (by omega))
      rw [add_at hs] at h0
      refine ⟨a.block, a.off, by cases a; simp_all, ?_⟩
      rw [h0, List.getD_eq_getElem?_getD, hx]; rfl
    · have := hwf z (List.mem_of_mem_take hz')
      simpa [I64, Lit.wf, IntKind.min, IntKind.max, IntKind.signed, IntKind.bits] using this
theorem int_read {t : TypeId} {fuel : Nat} {v : Value} {x : DataW H × List MemPlace} (ht : P.underlying t = some (.int .i64)) (h : DataW.trod enc P w base spare held fuel t [v] = some x) : ∃ k, v = .int .i64 k ∧ I64 k := by
  obtain ⟨k, hk, _, hwf⟩ := DataW.trod_int ht h
  cases hk
  exact ⟨k, rfl, by simpa [I64, Lit.wf, IntKind.min, IntKind.max, IntKind.signed, IntKind.bits] using hwf⟩
end
section
variable {H : Type} {enc : TypeId × Value → H} {W W' : World} {base : Nat} {spare : Nat → Bool} {held : Bool}
set_option maxRecDepth 100000 in
theorem acts_read {fuel : Nat} {v : Value} {x : DataW H × List MemPlace} (h : DataW.trod enc Try.prog W base spare held fuel 22 [v] = some x) : ∃ xs, ActsIn W (fun _ => False) v xs := by
  rcases open_slice Try.underlying22 h with ⟨e, _⟩ | ⟨a, len, cap, m, n, D, Pl, e, _, hl, hm, hmm, _, hat⟩
  · cases e
    exact ⟨[], none, 0, rfl, Nat.zero_le _, fun i x hx => by simp at hx⟩
  · cases e
    have hml : len ≤ m := by rw [hmm]; split <;> omega
    have hc5 : Try.prog.cellsOf 55 = 5 := by kernel_rfl
    have one : ∀ i, i < len → ∃ x vv, a.spot = none ∧ ActAt W (fun _ => False) a.block (a.off + i * 5) x vv := fun i hi => by
      obtain ⟨cs, hcs, htr⟩ := hat i (by omega)
      rw [hc5] at hcs
      obtain ⟨_, hlen, hcell⟩ := World.cells?_some hcs
      obtain ⟨n', hf⟩ := fields_read Try.underlying55 (by kernel_rfl) (by rw [hlen]; rfl) htr
      obtain ⟨v0, y0, e0, t0⟩ := hf 0 _ rfl
      obtain ⟨v1, y1, e1, t1⟩ := hf 1 _ rfl
      obtain ⟨v2, y2, e2, t2⟩ := hf 2 _ rfl
      obtain ⟨v3, y3, e3, t3⟩ := hf 3 _ rfl
      obtain ⟨v4, y4, e4, t4⟩ := hf 4 _ rfl
      obtain ⟨k0, rfl, i0⟩ := int_read Try.underlying3 t0
      obtain ⟨k1, rfl, i1⟩ := int_read Try.underlying3 t1
      obtain ⟨k2, rfl, i2⟩ := int_read Try.underlying3 t2
      obtain ⟨k3, rfl, i3⟩ := int_read Try.underlying3 t3
      obtain ⟨zs, hzs, hzi⟩ := ints_read Try.underlying28 Try.underlying3 (by kernel_rfl) t4
      have hs : a.spot = none := by
        have h0 := (hcell 0 (by omega)).trans e0
        have h1 := World.cell?_spot h0
        by_cases hi0 : i = 0
        · subst hi0; simpa [Addr.add] using h1
        · obtain ⟨cs', hcs', _⟩ := hat 0 (by omega)
          rw [hc5] at hcs'
          obtain ⟨_, hlen', hcell'⟩ := World.cells?_some hcs'
          have := (hcell' 0 (by omega)).trans (List.getElem?_eq_getElem (by omega))
          simpa [Addr.add] using World.cell?_spot this
      have hat' : ∀ j, j < 5 → W.cell? ⟨a.block, a.off + i * 5 + j, none⟩ = cs[j]? := fun j hj => by
        have := hcell j hj
        rw [add_at hs, add_at rfl] at this
        exact this
      exact ⟨⟨k0, k1, k2, k3, zs⟩, v4, hs, (hat' 0 (by omega)).trans e0, (hat' 1 (by omega)).trans e1, (hat' 2 (by omega)).trans e2, (hat' 3 (by omega)).trans e3, (hat' 4 (by omega)).trans e4, hzs, fun _ _ _ => id, i0, i1, i2, i3, hzi⟩
    have hch : ∀ k, k ≤ len → ∃ xs : List ActF, xs.length = k ∧ ∀ (i : Nat) x, xs[i]? = some x → ∃ vv, a.spot = none ∧ ActAt W (fun _ => False) a.block (a.off + i * 5) x vv := fun k => by
      induction k with
      | zero => exact fun _ => ⟨[], rfl, fun i x hx => by simp at hx⟩
      | succ k ih =>
        intro hk
        obtain ⟨xs, hx1, hx2⟩ := ih (by omega)
        obtain ⟨x, vv, hs, ha⟩ := one k (by omega)
        refine ⟨xs ++ [x], by simp [hx1], fun i y hy => ?_⟩
        by_cases hi : i < k
        · rw [List.getElem?_append_left (by omega)] at hy; exact hx2 i y hy
        · have : i = k := by
            have := (List.getElem?_eq_some_iff.1 hy).1
            simp at this; omega
          subst this
          rw [List.getElem?_append_right (by omega), hx1] at hy
          simp at hy; subst hy
          exact ⟨vv, hs, ha⟩
    obtain ⟨xs, hx1, hx2⟩ := hch len (Nat.le_refl _)
    refine ⟨xs, some a, cap, by rw [hx1], by omega, fun i x hx => ?_⟩
    obtain ⟨vv, hs, ha⟩ := hx2 i x hx
    exact ⟨a.block, a.off, vv, by cases a; simp_all, id, ha⟩

theorem trod_later : ∀ {ts : List TypeId} {vs : List Value} {ds : List (DataW H)} {p : List MemPlace} {P : Program} {sp : Nat → Bool}, DataW.TrodAll enc P W 0 sp true ts vs ds p → Below W.heap.size W W' → (∀ q ∈ p, q.block < W.heap.size) → DataW.TrodAll enc P W' 0 sp true ts vs ds p
  | [], [], [], _, _, _, h, _, _ => h
  | _ :: _, _ :: _, _ :: _, _, _, _, ⟨p1, p2, ⟨n, hn⟩, h2, e⟩, hb, hlt => ⟨p1, p2, ⟨n, DataW.trod_carry n _ _ _ hn fun q hq => hb.same (hlt q (by rw [e]; exact List.mem_append_left _ hq))⟩, trod_later h2 hb fun q hq => hlt q (by rw [e]; exact List.mem_append_right _ hq), e⟩
/-- The arguments, read again behind a call that leaves all that was there as it was. -/
theorem args_again {ts : List TypeId} (hts : ∀ t ∈ ts, t < Try.prog.types.size) {vs : List Value} {ds : List (DataW H)} {p : List MemPlace} (h : DataW.TrodAll enc Try.prog W 0 (fun _ => true) true ts vs ds p) (hb : Below W.heap.size W W') (sp : Nat → Bool) (hsp : ∀ q ∈ p, sp q.block = true) :
    DataW.TrodAll enc Try.prog W' 0 sp true ts vs ds p :=
  trod_later (DataW.TrodAll.respare (kids_rows (by kernel_rfl) (by kernel_rfl)) (slices_full_of Try.prog (by kernel_rfl)) hts h hsp) hb h.lt
end
end LawW
end Go.Proofs.Ytjajpdmmoiiojaa
