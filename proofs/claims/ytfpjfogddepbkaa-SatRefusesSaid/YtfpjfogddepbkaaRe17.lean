/- SatRefuses: literals that may not be are refused. No condition. -/
import Derived.Test.YtfpjfogddepbkaaRe13
import Derived.Test.YtfpjfogddepbkaaChecked
import Derived.Test.YtfpjfogddepbkaaRows
import Derived.Deep.Slices
import Derived.Deep.Fields
import Derived.Deep.Grids
import Derived.ChangeSame
import Derived.ChangeAlike
import Derived.ReadAgain
import Derived.Below
import Derived.ProofKit
import Derived.OpenShut
import Derived.Test.YtfpjfogddepbkaaRe16
set_option linter.unusedSimpArgs false
set_option linter.unusedVariables false
/- The arguments of the laws, opened and shut again; from a walk to a row's post. -/
namespace Go.Proofs.Ytfpjfogddepbkaa
open Go.RowKit Go.Mem Go.Sat Go.ChangeShapes Go.WideShapes Go.ChangeAt Go.Deep
namespace SaW
def I64 (z : Int) : Prop := -9223372036854775808 ≤ z ∧ z ≤ 9223372036854775807
section
variable {H : Type} {enc : TypeId × Value → H} {P : Program} {w W W' : World} {base : Nat} {spare : Nat → Bool} {held : Bool}
theorem add_at {a : Addr} (h : a.spot = none) (j : Nat) : a.add j = ⟨a.block, a.off + j, none⟩ := by
  unfold Addr.add
  split
  · rename_i h0; subst h0; cases a; simp_all
  · rfl
theorem int_read {t : TypeId} {fuel : Nat} {v : Value} {x : DataW H × List MemPlace} (ht : P.underlying t = some (.int .i64)) (h : DataW.trod enc P w base spare held fuel t [v] = some x) : ∃ k, v = .int .i64 k ∧ I64 k := by
  obtain ⟨k, hk, _, hwf⟩ := DataW.trod_int ht h
  cases hk
  exact ⟨k, rfl, by simpa [I64, Lit.wf, IntKind.min, IntKind.max, IntKind.signed, IntKind.bits] using hwf⟩
end
section
variable {H : Type} {enc : TypeId × Value → H} {P : Program} {w W W' : World} {base : Nat} {spare : Nat → Bool} {held : Bool}
/-- A slice of one-cell elements: its elements, each one read. -/
theorem one_read {t e : TypeId} {fuel : Nat} {v : Value} {x : DataW H × List MemPlace} (ht : P.underlying t = some (.slice e)) (hc : P.cellsOf e = 1) (h : DataW.trod enc P w base spare held fuel t [v] = some x) :
    ∃ vs : List Value, SeesW w id v vs ∧ ∀ u ∈ vs, ∃ n y, DataW.trod enc P w base spare held n e [u] = some y := by
  rcases open_slice1 ht hc h with ⟨e1, _⟩ | ⟨a, len, cap, m, n, V, D, Pl, e1, hb, hl, hm, hmm, _, hx⟩
  · cases e1
    exact ⟨[], (Sees.weak (.inl ⟨rfl, rfl⟩)), fun u hu => by cases hu⟩
  · cases e1
    have hlm : len ≤ m := by rw [hmm]; split <;> omega
    refine ⟨(List.range len).map V, ?_, fun u hu => ?_⟩
    · refine ⟨some a, cap, by simp, by simp; omega, fun i x hi => ?_⟩
      · have hil : i < len := by have := (List.getElem?_eq_some_iff.1 hi).1; simpa using this
        have hs : a.spot = none := World.cell?_spot (by have := (hx 0 (by omega)).1; simpa [Addr.add] using this)
        refine ⟨a.block, a.off, by cases a; simp_all, ?_⟩
        rw [List.getElem?_map, List.getElem?_range hil] at hi
        cases hi
        have := (hx i (by omega)).1
        rw [add_at hs] at this
        exact this
    · obtain ⟨i, hi, rfl⟩ := List.mem_map.1 hu
      have := List.mem_range.1 hi
      exact ⟨n, _, (hx i (by omega)).2⟩
theorem sees_conv {α : Type} [Inhabited α] {e : α → Value} {Q : α → Prop} {v : Value} {vs : List Value} (h : SeesW w id v vs) (hc : ∀ u ∈ vs, ∃ x, u = e x ∧ Q x) : ∃ xs : List α, SeesW w e v xs ∧ ∀ x ∈ xs, Q x := by
  have hf : ∃ f : Value → α, ∀ u ∈ vs, u = e (f u) ∧ Q (f u) := by
    classical
    refine ⟨fun u => if hu : u ∈ vs then (hc u hu).choose else default, fun u hu => ?_⟩
    simp only [hu, dite_true]
    exact (hc u hu).choose_spec
  obtain ⟨f, hf⟩ := hf
  refine ⟨vs.map f, ?_, fun x hx => ?_⟩
  · obtain ⟨A, c, rfl, h2, h3⟩ := h
    refine ⟨A, c, by simp, by simpa using h2, fun i x hx => ?_⟩
    rw [List.getElem?_map] at hx
    obtain ⟨u, hu, rfl⟩ := Option.map_eq_some_iff.1 hx
    rw [← (hf u (List.mem_of_getElem? hu)).1]
    exact h3 i u hu
  · obtain ⟨u, hu, rfl⟩ := List.mem_map.1 hx
    exact (hf u hu).2
end
section
variable {H : Type} {enc : TypeId × Value → H} {w W W' : World} {base : Nat} {spare : Nat → Bool} {held : Bool}
theorem ints_read {fuel : Nat} {v : Value} {x : DataW H × List MemPlace} (h : DataW.trod enc Try.prog w base spare held fuel 26 [v] = some x) : ∃ zs : List Int, SeesW w iI v zs ∧ ∀ z ∈ zs, I64 z := by
  obtain ⟨vs, hs, hr⟩ := one_read Try.underlying26 (by kernel_rfl) h
  exact sees_conv (e := iI) hs fun u hu => by
    obtain ⟨n, y, hy⟩ := hr u hu
    exact int_read Try.underlying3 hy
theorem bools_read {fuel : Nat} {v : Value} {x : DataW H × List MemPlace} (h : DataW.trod enc Try.prog w base spare held fuel 22 [v] = some x) : ∃ bs : List Bool, SeesW w Value.bool v bs := by
  obtain ⟨vs, hs, hr⟩ := one_read Try.underlying22 (by kernel_rfl) h
  obtain ⟨bs, hb, _⟩ := sees_conv (e := Value.bool) (Q := fun _ => True) hs fun u hu => by
    obtain ⟨n, y, hy⟩ := hr u hu
    obtain ⟨b, hb, _⟩ := DataW.trod_bool Try.underlying4 hy
    cases hb
    exact ⟨b, rfl, trivial⟩
  exact ⟨bs, hb⟩
theorem lists_read {fuel : Nat} {v : Value} {x : DataW H × List MemPlace} (h : DataW.trod enc Try.prog w base spare held fuel 36 [v] = some x) : ∃ l : List (List Int), SeesL w v l ∧ ∀ c ∈ l, ∀ z ∈ c, I64 z := by
  obtain ⟨vs, hs, hr⟩ := one_read Try.underlying36 (by kernel_rfl) h
  have hf : ∃ f : Value → List Int, ∀ u ∈ vs, SeesW w iI u (f u) ∧ ∀ z ∈ f u, I64 z := by
    have hc : ∀ u ∈ vs, ∃ c : List Int, SeesW w iI u c ∧ ∀ z ∈ c, I64 z := fun u hu => by
      obtain ⟨n, y, hy⟩ := hr u hu
      exact ints_read hy
    classical
    refine ⟨fun u => if hu : u ∈ vs then (hc u hu).choose else [], fun u hu => ?_⟩
    simp only [hu, dite_true]
    exact (hc u hu).choose_spec
  obtain ⟨f, hf⟩ := hf
  refine ⟨vs.map f, ⟨vs, hs, by simp, fun i u c hu hc => ?_⟩, fun c hc => ?_⟩
  · rw [List.getElem?_map, hu] at hc
    cases hc
    exact (hf u (List.mem_of_getElem? hu)).1
  · obtain ⟨u, hu, rfl⟩ := List.mem_map.1 hc
    exact (hf u hu).2
theorem trod_later : ∀ {ts : List TypeId} {vs : List Value} {ds : List (DataW H)} {p : List MemPlace} {P : Program} {sp : Nat → Bool}, DataW.TrodAll enc P W 0 sp true ts vs ds p → Below W.heap.size W W' → (∀ q ∈ p, q.block < W.heap.size) → DataW.TrodAll enc P W' 0 sp true ts vs ds p
  | [], [], [], _, _, _, h, _, _ => h
  | _ :: _, _ :: _, _ :: _, _, _, _, ⟨p1, p2, ⟨n, hn⟩, h2, e⟩, hb, hlt => ⟨p1, p2, ⟨n, DataW.trod_carry n _ _ _ hn fun q hq => hb.same (hlt q (by rw [e]; exact List.mem_append_left _ hq))⟩, trod_later h2 hb fun q hq => hlt q (by rw [e]; exact List.mem_append_right _ hq), e⟩
/-- The arguments, read again behind a call that leaves all that was there as it was. -/
theorem args_again {ts : List TypeId} (hts : ∀ t ∈ ts, t < Try.prog.types.size) {vs : List Value} {ds : List (DataW H)} {p : List MemPlace} (h : DataW.TrodAll enc Try.prog W 0 (fun _ => true) true ts vs ds p) (hb : Below W.heap.size W W') (sp : Nat → Bool) (hsp : ∀ q ∈ p, sp q.block = true) :
    DataW.TrodAll enc Try.prog W' 0 sp true ts vs ds p :=
  trod_later (DataW.TrodAll.respare (kids_rows (by kernel_rfl) (by kernel_rfl)) (slices_full_of Try.prog (by kernel_rfl)) hts h hsp) hb h.lt
end
section
variable {H : Type} {enc : TypeId × Value → H} {P : Program}
/-- The row's last step: below the heap's old end all is as it was. -/
theorem post_below {f : Func} {s : ChangeSpec} {apart fresh handsOn again : Bool} {W W' : World} {args : Array Value} {v : Value} {ds gs : List (DataW H)} {before pa pv : List MemPlace}
    (hW : DataW.Whole enc P f.params.toList s.vars apart W args.toList ds gs before)
    (hres : ∀ (b : Nat) (sp : Nat → Bool) (hd : Bool), DataW.TrodAll enc P W' b sp hd f.resultTypes.toList (v.resultList f.resultTypes.size) (s.fn H (ds ++ gs)).results [])
    (hargs : ∀ sp : Nat → Bool, (∀ p ∈ before, sp p.block = true) → DataW.TrodAll enc P W' 0 sp true f.params.toList args.toList (s.fn H (ds ++ gs)).args pa)
    (hvars : ∀ sp : Nat → Bool, (∀ p ∈ before, sp p.block = true) → DataW.TrodVars enc P W' sp s.vars (s.fn H (ds ++ gs)).vars pv)
    (hps : before = pa ++ pv) (hb : Below W.heap.size W W')
    (hok : ∀ (j : Nat) (t : TypeId) (r : Value), f.resultTypes[j]? = some t → (v.resultList f.resultTypes.size)[j]? = some r → Value.okWide P W' .any 0 t r) : s.post enc P f apart fresh handsOn again W args v W' := by
  have hlt := hW.lt
  have hold : ∀ p ∈ before, (fun b => decide (b < W.heap.size)) p.block = true := fun p hp => by simpa using hlt p hp
  refine ⟨ds, gs, before, [], pa, pv, hW, hres _ _ _, hargs _ hold, hvars _ hold, World.keptBut_mono (fun p hp => ⟨hp, .inr (by rw [hps, List.mem_append] at hp; exact hp)⟩) (hb.frame (· ∈ before)), fun _ => ?_⟩
  obtain ⟨_, _, _, _, _, hz, hn⟩ := hW
  refine ⟨hok, _, _, ([] ++ pa) ++ pv, ⟨[] ++ pa, pv, trodAll_append (hargs _ (fun _ _ => rfl)) (hres _ _ _), hvars _ (fun _ _ => rfl), rfl, fun b off hp => ?_, fun ha => ?_⟩, fun p hp _ => by rw [hps]; simpa using hp⟩
  · have hin : MemPlace.cell b off ∈ before := by rw [hps]; simpa using hp
    rw [hb.frozen (hlt _ hin)]
    exact hz b off hin
  · have := hn ha
    rw [hps] at this
    simpa using this
end
theorem own_knob : ownKnob Try.prog.godebug = none := by kernel_rfl
end SaW
end Go.Proofs.Ytfpjfogddepbkaa
namespace Go.Proofs.Ytfpjfogddepbkaa
open Go.RowKit Go.Mem Go.Sat Go.ChangeShapes Go.WideShapes Go.ChangeAt Go.Deep
namespace SaW
set_option maxRecDepth 100000 in
theorem satRefuses_lifted (os : Os) (started : os.Started) (H : Type) (enc : TypeId × Value → H) :
    ReturnsInHanded {} Try.checked os 4 .any (Rows.satRefusesSpec.pre6 enc Try.prog Try.f4 Rows.satRefusesRow.domain false) (Rows.satRefusesSpec.post enc Try.prog Try.f4 false true false false) := by
  refine returnsInHanded_of_change (C := Try.checked) own_knob started (by kernel_rfl) Try.func4
    (ChangeSpec.witness6 (enc := enc) (C := Try.checked) false ⟨#[], #[.slice none 0 0, .slice none 0 0], []⟩ 8 (by kernel_rfl) (by kernel_rfl) (by kernel_rfl) (by kernel_rfl)) ?_
  intro W base args ds gs before hval0 hW hcnd _
  have hval : ∀ (j : Nat) t v, Try.f4.params[j]? = some t → args[j]? = some v → Value.okWide Try.prog W .any base t v := hval0
  have hW' := hW
  obtain ⟨p, q, hA0, hV, rfl, hfz, hnd⟩ := hW
  have hA : DataW.TrodAll enc Try.prog W 0 (fun _ => true) true Try.f4.params.toList args.toList ds p := hA0
  have hAk := hA
  rw [Try.params4] at hA hval
  obtain ⟨v0, v1, d0, d1, p0, p1, rfl, rfl, rfl, h0, h1⟩ := trodAll_two hA
  obtain ⟨rfl, rfl⟩ := trodVars_none hV
  obtain ⟨a0, b0, c0, rfl⟩ := okWide_slice Try.underlying26 (hval 0 26 v0 rfl rfl)
  obtain ⟨a1, b1, c1, rfl⟩ := okWide_slice Try.underlying26 (hval 1 26 v1 rfl rfl)
  obtain ⟨n0, hn0⟩ := h0
  obtain ⟨n1, hn1⟩ := h1
  obtain ⟨c, hc, _⟩ := ints_read hn0
  obtain ⟨is, hi, _⟩ := ints_read hn1
  clear hA0 hval0
  simp only [List.append_nil] at hW'
  refine (refuses_walk W _ _ c is hc hi).mono fun e W' ⟨he, hf⟩ => ?_
  subst he
  have hb := hf.below
  exact ⟨_, rfl, post_below (pa := _) (pv := []) hW' (fun _ _ _ => trodAll_mk1 (shut_bool Try.underlying4 _)) (fun sp hsp => args_again (by rw [Try.params4]; decide) hAk hb sp (by simpa using hsp)) (fun _ _ => rfl) (by simp) hb (ok_one (by kernel_rfl) rfl (okWide_bool_mk Try.underlying4 _))⟩
theorem satRefuses_row : Rows.SatRefusesSaid :=
  OpenClaim.holds_of_wide 4 Try.f4 rfl rfl rfl rfl rfl rfl rfl ⟨rfl, rfl, rfl, rfl, rfl⟩ rfl rfl rfl rfl rfl (by kernel_rfl) Try.func4 (by kernel_rfl)
    (of_decide_eq_true (by kernel_rfl)) (by unfold Func.isWrapper; first | (rw [if_pos (by decide +kernel)]; kernel_rfl) | (rw [if_neg (by decide +kernel)]; exact ⟨rfl, rfl⟩))
    (fun os started H enc _ => satRefuses_lifted os started H enc)
end SaW
theorem satRefuses_holds : Rows.SatRefusesSaid := SaW.satRefuses_row
#print axioms satRefuses_holds
end Go.Proofs.Ytfpjfogddepbkaa
