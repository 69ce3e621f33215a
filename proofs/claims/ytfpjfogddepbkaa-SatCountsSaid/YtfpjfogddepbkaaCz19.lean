/- SatCounts: model by model there are just as many as there are. No condition. -/
import Derived.Test.YtfpjfogddepbkaaCz13
import Derived.Test.YtfpjfogddepbkaaChecked
import Derived.Test.YtfpjfogddepbkaaRows
import Derived.Deep.Slices
import Derived.Deep.Fields
import Derived.Deep.Grids
import Derived.ChangeSame
import Derived.ChangeAlike
import Derived.ReadAgain
import Derived.Below
import Derived.ProofKit
import Derived.OpenShut
import Derived.Test.YtfpjfogddepbkaaCz18
import Derived.Laws.Bits64
set_option linter.unusedSimpArgs false
set_option linter.unusedVariables false
/- The arguments of the laws, opened and shut again; from a walk to a row's post. -/
namespace Go.Proofs.Ytfpjfogddepbkaa
open Go.RowKit Go.Mem Go.Sat Go.ChangeShapes Go.WideShapes Go.ChangeAt Go.Deep
namespace SaW
def I64 (z : Int) : Prop := -9223372036854775808 ≤ z ∧ z ≤ 9223372036854775807
section
variable {H : Type} {enc : TypeId × Value → H} {P : Program} {w W W' : World} {base : Nat} {spare : Nat → Bool} {held : Bool}
theorem add_at {a : Addr} (h : a.spot = none) (j : Nat) : a.add j = ⟨a.block, a.off + j, none⟩ := by
  unfold Addr.add
  split
  · rename_i h0; subst h0; cases a; simp_all
  · rfl
theorem int_read {t : TypeId} {fuel : Nat} {v : Value} {x : DataW H × List MemPlace} (ht : P.underlying t = some (.int .i64)) (h : DataW.trod enc P w base spare held fuel t [v] = some x) : ∃ k, v = .int .i64 k ∧ I64 k := by
  obtain ⟨k, hk, _, hwf⟩ := DataW.trod_int ht h
  cases hk
  exact ⟨k, rfl, by simpa [I64, Lit.wf, IntKind.min, IntKind.max, IntKind.signed, IntKind.bits] using hwf⟩
end
section
variable {H : Type} {enc : TypeId × Value → H} {P : Program} {w W W' : World} {base : Nat} {spare : Nat → Bool} {held : Bool}
/-- A slice of one-cell elements: its elements, each one read. -/
theorem one_read {t e : TypeId} {fuel : Nat} {v : Value} {x : DataW H × List MemPlace} (ht : P.underlying t = some (.slice e)) (hc : P.cellsOf e = 1) (h : DataW.trod enc P w base spare held fuel t [v] = some x) :
    ∃ vs : List Value, SeesW w id v vs ∧ ∀ u ∈ vs, ∃ n y, DataW.trod enc P w base spare held n e [u] = some y := by
  rcases open_slice1 ht hc h with ⟨e1, _⟩ | ⟨a, len, cap, m, n, V, D, Pl, e1, hb, hl, hm, hmm, _, hx⟩
  · cases e1
    exact ⟨[], (Sees.weak (.inl ⟨rfl, rfl⟩)), fun u hu => by cases hu⟩
  · cases e1
    have hlm : len ≤ m := by rw [hmm]; split <;> omega
    refine ⟨(List.range len).map V, ?_, fun u hu => ?_⟩
    · refine ⟨some a, cap, by simp, by simp; omega, fun i x hi => ?_⟩
      · have hil : i < len := by have := (List.getElem?_eq_some_iff.1 hi).1; simpa using this
        have hs : a.spot = none := World.cell?_spot (by have := (hx 0 (by omega)).1; simpa [Addr.add] using this)
        refine ⟨a.block, a.off, by cases a; simp_all, ?_⟩
        rw [List.getElem?_map, List.getElem?_range hil] at hi
        cases hi
        have := (hx i (by omega)).1
        rw [add_at hs] at this
        exact this
    · obtain ⟨i, hi, rfl⟩ := List.mem_map.1 hu
      have := List.mem_range.1 hi
      exact ⟨n, _, (hx i (by omega)).2⟩
theorem sees_conv {α : Type} [Inhabited α] {e : α → Value} {Q : α → Prop} {v : Value} {vs : List Value} (h : SeesW w id v vs) (hc : ∀ u ∈ vs, ∃ x, u = e x ∧ Q x) : ∃ xs : List α, SeesW w e v xs ∧ ∀ x ∈ xs, Q x := by
  have hf : ∃ f : Value → α, ∀ u ∈ vs, u = e (f u) ∧ Q (f u) := by
    classical
    refine ⟨fun u => if hu : u ∈ vs then (hc u hu).choose else default, fun u hu => ?_⟩
    simp only [hu, dite_true]
    exact (hc u hu).choose_spec
  obtain ⟨f, hf⟩ := hf
  refine ⟨vs.map f, ?_, fun x hx => ?_⟩
  · obtain ⟨A, c, rfl, h2, h3⟩ := h
    refine ⟨A, c, by simp, by simpa using h2, fun i x hx => ?_⟩
    rw [List.getElem?_map] at hx
    obtain ⟨u, hu, rfl⟩ := Option.map_eq_some_iff.1 hx
    rw [← (hf u (List.mem_of_getElem? hu)).1]
    exact h3 i u hu
  · obtain ⟨u, hu, rfl⟩ := List.mem_map.1 hx
    exact (hf u hu).2
end
section
variable {H : Type} {enc : TypeId × Value → H} {w W W' : World} {base : Nat} {spare : Nat → Bool} {held : Bool}
theorem ints_read {fuel : Nat} {v : Value} {x : DataW H × List MemPlace} (h : DataW.trod enc Try.prog w base spare held fuel 26 [v] = some x) : ∃ zs : List Int, SeesW w iI v zs ∧ ∀ z ∈ zs, I64 z := by
  obtain ⟨vs, hs, hr⟩ := one_read Try.underlying26 (by kernel_rfl) h
  exact sees_conv (e := iI) hs fun u hu => by
    obtain ⟨n, y, hy⟩ := hr u hu
    exact int_read Try.underlying3 hy
theorem bools_read {fuel : Nat} {v : Value} {x : DataW H × List MemPlace} (h : DataW.trod enc Try.prog w base spare held fuel 22 [v] = some x) : ∃ bs : List Bool, SeesW w Value.bool v bs := by
  obtain ⟨vs, hs, hr⟩ := one_read Try.underlying22 (by kernel_rfl) h
  obtain ⟨bs, hb, _⟩ := sees_conv (e := Value.bool) (Q := fun _ => True) hs fun u hu => by
    obtain ⟨n, y, hy⟩ := hr u hu
    obtain ⟨b, hb, _⟩ := DataW.trod_bool Try.underlying4 hy
    cases hb
    exact ⟨b, rfl, trivial⟩
  exact ⟨bs, hb⟩
theorem lists_read {fuel : Nat} {v : Value} {x : DataW H × List MemPlace} (h : DataW.trod enc Try.prog w base spare held fuel 36 [v] = some x) : ∃ l : List (List Int), SeesL w v l ∧ ∀ c ∈ l, ∀ z ∈ c, I64 z := by
  obtain ⟨vs, hs, hr⟩ := one_read Try.underlying36 (by kernel_rfl) h
  have hf : ∃ f : Value → List Int, ∀ u ∈ vs, SeesW w iI u (f u) ∧ ∀ z ∈ f u, I64 z := by
    have hc : ∀ u ∈ vs, ∃ c : List Int, SeesW w iI u c ∧ ∀ z ∈ c, I64 z := fun u hu => by
      obtain ⟨n, y, hy⟩ := hr u hu
      exact ints_read hy
    classical
    refine ⟨fun u => if hu : u ∈ vs then (hc u hu).choose else [], fun u hu => ?_⟩
    simp only [hu, dite_true]
    exact (hc u hu).choose_spec
  obtain ⟨f, hf⟩ := hf
  refine ⟨vs.map f, ⟨vs, hs, by simp, fun i u c hu hc => ?_⟩, fun c hc => ?_⟩
  · rw [List.getElem?_map, hu] at hc
    cases hc
    exact (hf u (List.mem_of_getElem? hu)).1
  · obtain ⟨u, hu, rfl⟩ := List.mem_map.1 hc
    exact (hf u hu).2
theorem trod_later : ∀ {ts : List TypeId} {vs : List Value} {ds : List (DataW H)} {p : List MemPlace} {P : Program} {sp : Nat → Bool}, DataW.TrodAll enc P W 0 sp true ts vs ds p → Below W.heap.size W W' → (∀ q ∈ p, q.block < W.heap.size) → DataW.TrodAll enc P W' 0 sp true ts vs ds p
  | [], [], [], _, _, _, h, _, _ => h
  | _ :: _, _ :: _, _ :: _, _, _, _, ⟨p1, p2, ⟨n, hn⟩, h2, e⟩, hb, hlt => ⟨p1, p2, ⟨n, DataW.trod_carry n _ _ _ hn fun q hq => hb.same (hlt q (by rw [e]; exact List.mem_append_left _ hq))⟩, trod_later h2 hb fun q hq => hlt q (by rw [e]; exact List.mem_append_right _ hq), e⟩
/-- The arguments, read again behind a call that leaves all that was there as it was. -/
theorem args_again {ts : List TypeId} (hts : ∀ t ∈ ts, t < Try.prog.types.size) {vs : List Value} {ds : List (DataW H)} {p : List MemPlace} (h : DataW.TrodAll enc Try.prog W 0 (fun _ => true) true ts vs ds p) (hb : Below W.heap.size W W') (sp : Nat → Bool) (hsp : ∀ q ∈ p, sp q.block = true) :
    DataW.TrodAll enc Try.prog W' 0 sp true ts vs ds p :=
  trod_later (DataW.TrodAll.respare (kids_rows (by kernel_rfl) (by kernel_rfl)) (slices_full_of Try.prog (by kernel_rfl)) hts h hsp) hb h.lt
end
section
variable {H : Type} {enc : TypeId × Value → H} {P : Program}
/-- The row's last step: below the heap's old end all is as it was. -/
theorem post_below {f : Func} {s : ChangeSpec} {apart fresh handsOn again : Bool} {W W' : World} {args : Array Value} {v : Value} {ds gs : List (DataW H)} {before pa pv : List MemPlace}
    (hW : DataW.Whole enc P f.params.toList s.vars apart W args.toList ds gs before)
    (hres : ∀ (b : Nat) (sp : Nat → Bool) (hd : Bool), DataW.TrodAll enc P W' b sp hd f.resultTypes.toList (v.resultList f.resultTypes.size) (s.fn H (ds ++ gs)).results [])
    (hargs : ∀ sp : Nat → Bool, (∀ p ∈ before, sp p.block = true) → DataW.TrodAll enc P W' 0 sp true f.params.toList args.toList (s.fn H (ds ++ gs)).args pa)
    (hvars : ∀ sp : Nat → Bool, (∀ p ∈ before, sp p.block = true) → DataW.TrodVars enc P W' sp s.vars (s.fn H (ds ++ gs)).vars pv)
    (hps : before = pa ++ pv) (hb : Below W.heap.size W W')
    (hok : ∀ (j : Nat) (t : TypeId) (r : Value), f.resultTypes[j]? = some t → (v.resultList f.resultTypes.size)[j]? = some r → Value.okWide P W' .any 0 t r) : s.post enc P f apart fresh handsOn again W args v W' := by
  have hlt := hW.lt
  have hold : ∀ p ∈ before, (fun b => decide (b < W.heap.size)) p.block = true := fun p hp => by simpa using hlt p hp
  refine ⟨ds, gs, before, [], pa, pv, hW, hres _ _ _, hargs _ hold, hvars _ hold, World.keptBut_mono (fun p hp => ⟨hp, .inr (by rw [hps, List.mem_append] at hp; exact hp)⟩) (hb.frame (· ∈ before)), fun _ => ?_⟩
  obtain ⟨_, _, _, _, _, hz, hn⟩ := hW
  refine ⟨hok, _, _, ([] ++ pa) ++ pv, ⟨[] ++ pa, pv, trodAll_append (hargs _ (fun _ _ => rfl)) (hres _ _ _), hvars _ (fun _ _ => rfl), rfl, fun b off hp => ?_, fun ha => ?_⟩, fun p hp _ => by rw [hps]; simpa using hp⟩
  · have hin : MemPlace.cell b off ∈ before := by rw [hps]; simpa using hp
    rw [hb.frozen (hlt _ hin)]
    exact hz b off hin
  · have := hn ha
    rw [hps] at this
    simpa using this
end
theorem own_knob : ownKnob Try.prog.godebug = none := by kernel_rfl
end SaW
end Go.Proofs.Ytfpjfogddepbkaa
/- The document's Holds, the law's few, walked. -/
namespace Go.Proofs.Ytfpjfogddepbkaa
open Go.RowKit Go.Mem Go.Sat
namespace SaW
section
variable {w : World}
set_option maxRecDepth 100000 in
set_option maxHeartbeats 1000000 in
theorem holds_calls (va vi : Value) (l : List (List Int)) (is : List Int) (hA : SeesL w va l) (hI : Sees w iI vi is) : Calls Try.prog 17 #[va, vi] w fun e w' => e = .returned (.bool (holdsF l is)) ∧ w' = w := by
  have hla : l.length ≤ 9223372036854775807 := hA.len
  obtain ⟨VA, ca, rfl, hca⟩ := hA.slice
  have hcA := Lib.hid hca
  have HH := Lib.hid (fun n => has_calls (w := w) vi is n hI)
  clear hca hA hI
  go_enter Try.func17, Try.ntmps17
  go_wp2_with fail
  go_loopw [5] (fun v5 w' => ∃ j : Nat, v5 = .int .i64 j ∧ j ≤ l.length ∧ Hid (holdsF (l.take j) is = true) ∧ w' = w) (fun v5 _ => l.length - (intOf v5).toNat)
  case atStart => exact ⟨0, rfl, by omega, Lib.hid rfl, rfl⟩
  case round =>
    obtain ⟨j, rfl, hj, hT, hw⟩ := hrel
    subst hw
    by_cases hjl : j < l.length
    · have hjI : (j : Int) < (l.length : Int) := by omega
      obtain ⟨c, hc⟩ : ∃ c, l[j]? = some c := ⟨_, List.getElem?_eq_getElem hjl⟩
      obtain ⟨ga, oa, u, rfl, xa, hu⟩ := hcA.out j c hc
      have hcl : c.length ≤ 9223372036854775807 := hu.len
      obtain ⟨VC, cc, rfl, hcc⟩ := hu.slice
      have HCC := Lib.hid hcc
      have HC := Lib.hid hc
      clear hc hu hcc
      go_wp2_with fail
      go_loopw [6, 7] (fun v6 v7 w' => ∃ i : Nat, v7 = .int .i64 i ∧ i ≤ c.length ∧ (∃ b, v6 = .bool b ∧ Hid ((c.take i).any (fun n => decide (n ∈ is)) = b)) ∧ w' = wr) (fun _ v7 _ => c.length - (intOf v7).toNat)
      case atStart => exact ⟨0, rfl, by omega, ⟨false, rfl, Lib.hid rfl⟩, rfl⟩
      case round =>
        obtain ⟨i, rfl, hi, ⟨b, rfl, hB⟩, hw⟩ := hrel
        subst hw
        by_cases hil : i < c.length
        · have hiI : (i : Int) < (c.length : Int) := by omega
          obtain ⟨n, hn⟩ : ∃ n, c[i]? = some n := ⟨_, List.getElem?_eq_getElem hil⟩
          obtain ⟨gc, oc, rfl, xc⟩ := HCC.out i n hn
          have HN := Lib.hid hn
          clear hn
          cases b with
          | true =>
            have hB2 : Hid ((c.take (i + 1)).any (fun n => decide (n ∈ is)) = true) := Lib.hid (by rw [List.take_add_one, HN.out, List.any_append, hB.out]; rfl)
            clear hB HN
            go_wp2_with fail
            go_roundw
            case rel => exact ⟨i + 1, rfl, hil, ⟨true, rfl, hB2⟩, by trivial⟩
            case measure => simp only [intOf]; omega
          | false =>
            go_wp2_with fail
            refine (HH.out n).mono ?_
            rintro e w5 ⟨rfl, hw5⟩
            rw [hw5]
            clear hw5 w5
            dsimp only
            obtain ⟨b2, hb2⟩ : ∃ b2, b2 = decide (n ∈ is) := ⟨_, rfl⟩
            have hB2 : Hid ((c.take (i + 1)).any (fun n => decide (n ∈ is)) = b2) := Lib.hid (by rw [List.take_add_one, HN.out, List.any_append, hB.out, hb2]; simp)
            rw [← hb2]
            clear hB HN hb2
            go_wp2
            go_roundw
            case rel => exact ⟨i + 1, rfl, hil, ⟨b2, rfl, hB2⟩, by trivial⟩
            case measure => simp only [intOf]; omega
        · have hiI : ¬ (i : Int) < (c.length : Int) := by omega
          have hany : Hid (c.any (fun n => decide (n ∈ is)) = b) := Lib.hid (by have h1 := hB.out; rw [List.take_of_length_le (by omega)] at h1; exact h1)
          clear hB
          cases b with
          | true =>
            have hT2 : Hid (holdsF (l.take (j + 1)) is = true) := Lib.hid (by
              have h1 := hT.out
              unfold holdsF at h1 ⊢
              rw [List.take_add_one, HC.out, List.all_append, h1]; simp only [Option.toList_some, List.all_cons, hany.out]; rfl)
            clear hT hany
            go_wp2
            go_roundw
            case rel => exact ⟨j + 1, rfl, hjl, hT2, by trivial⟩
            case measure => simp only [intOf]; omega
          | false =>
            have hF : Hid (holdsF l is = false) := Lib.hid (by
              unfold holdsF
              rw [List.all_eq_false]
              exact ⟨c, List.mem_of_getElem? HC.out, by rw [hany.out]; decide⟩)
            clear hT hany
            go_wp2
            go_ret
            exact ⟨by rw [hF.out]; rfl, rfl⟩
    · have hjI : ¬ (j : Int) < (l.length : Int) := by omega
      have hF : Hid (holdsF l is = true) := Lib.hid (by have h1 := hT.out; rw [List.take_of_length_le (by omega)] at h1; exact h1)
      clear hT
      go_wp2
      go_ret
      exact ⟨by rw [hF.out]; rfl, rfl⟩
end
/-- A slice as an element. -/
def encS (t : Option Addr × Nat × Nat) : Value := .slice t.1 t.2.1 t.2.2
theorem SeesL.elems {w : World} {v : Value} {l : List (List Int)} (h : SeesL w v l) : ∃ xs : List (Option Addr × Nat × Nat), SeesW w encS v xs ∧ xs.length = l.length ∧ ∀ (i : Nat) t c, xs[i]? = some t → l[i]? = some c → SeesW w iI (encS t) c := by
  obtain ⟨vs, h1, h2, h3⟩ := h
  obtain ⟨A, c, rfl, h4, h5⟩ := h1
  have hf : ∀ i, i < vs.length → ∃ t, vs[i]? = some (encS t) := fun i hi => by
    obtain ⟨u, hu⟩ : ∃ u, vs[i]? = some u := ⟨_, List.getElem?_eq_getElem hi⟩
    obtain ⟨x, hx⟩ : ∃ x, l[i]? = some x := ⟨_, List.getElem?_eq_getElem (by rw [← h2]; exact hi)⟩
    obtain ⟨A', c', e, _⟩ := (h3 i u x hu hx).slice
    exact ⟨(A', x.length, c'), by rw [hu, e]; rfl⟩
  have hxs : ∃ xs : List (Option Addr × Nat × Nat), vs = xs.map encS := by
    clear h3 h4 h5 h2
    induction vs with
    | nil => exact ⟨[], rfl⟩
    | cons u r ih =>
      obtain ⟨t, ht⟩ := hf 0 (by simp)
      obtain ⟨xs, hxs⟩ := ih fun i hi => by
        obtain ⟨t', ht'⟩ := hf (i + 1) (by simp; omega)
        exact ⟨t', by simpa using ht'⟩
      simp at ht
      exact ⟨t :: xs, by rw [ht, hxs]; rfl⟩
  obtain ⟨xs, rfl⟩ := hxs
  rw [List.length_map] at h2 h4
  refine ⟨xs, ⟨A, c, by rw [List.length_map], h4, fun i x hx => h5 i (encS x) (by rw [List.getElem?_map, hx]; rfl)⟩, h2, fun i t x ht hx => h3 i _ x (by rw [List.getElem?_map, ht]; rfl) hx⟩
theorem SeesL.of_elems {w : World} {v : Value} {l : List (List Int)} {xs : List (Option Addr × Nat × Nat)} (h : SeesW w encS v xs) (hn : xs.length = l.length) (hs : ∀ (i : Nat) t c, xs[i]? = some t → l[i]? = some c → SeesW w iI (encS t) c) : SeesL w v l := by
  obtain ⟨A, c, h1, h2, h3⟩ := h
  refine ⟨xs.map encS, ⟨A, c, by rw [List.length_map]; exact h1, by rw [List.length_map]; exact h2, fun i u hu => ?_⟩, by rw [List.length_map]; exact hn, fun i u x hu hx => ?_⟩
  · rw [List.getElem?_map] at hu
    obtain ⟨t, ht, rfl⟩ := Option.map_eq_some_iff.1 hu
    exact h3 i t ht
  · rw [List.getElem?_map] at hu
    obtain ⟨t, ht, rfl⟩ := Option.map_eq_some_iff.1 hu
    exact hs i t x ht hx
end SaW
end Go.Proofs.Ytfpjfogddepbkaa
/- The law's few, walked. -/
namespace Go.Proofs.Ytfpjfogddepbkaa
open Go.RowKit Go.Mem Go.Sat
namespace SaW
theorem encS_one (t : Option Addr × Nat × Nat) : (encS t).oneCell' = true := rfl
theorem info_ints : (Try.prog.info? 26).map (fun i => (i.zero, i.size, i.bytes)) = some (some (.slice none 0 0), 1, 24) := by kernel_rfl
section
variable {w : World}
set_option maxRecDepth 100000 in
set_option maxHeartbeats 2000000 in
theorem few_calls (va : Value) (l : List (List Int)) (hA : SeesL w va l) : Calls Try.prog 14 #[va, .slice none 0 0] w fun e w' => ∃ b, e = .returned (.bool b) ∧ Frm (fun _ => False) w w' ∧ (b = true → l.all checkF = true ∧ l.length ≤ 60 ∧ ∀ c ∈ l, c.length ≤ 10) := by
  obtain ⟨i0, hi, hz0, hz1, hz2⟩ := info_parts info_ints
  have hla : l.length ≤ 9223372036854775807 := hA.len
  obtain ⟨xs, hx1, hx2, hx3⟩ := hA.elems
  have HX1 := Lib.hid hx1
  have HX2 := Lib.hid hx2
  have HX3 := Lib.hid hx3
  obtain ⟨VA, ca, rfl, hca⟩ := hA.slice
  have hcA := Lib.hid hca
  have HA := Lib.hid hA
  clear hca hA hx1 hx2 hx3
  go_enter Try.func14, Try.ntmps14
  by_cases h60 : (l.length : Int) ≤ 60
  · have e1 : decide ((60 : Int) < (l.length : Int)) = false := by simp; omega
    have HL : Hid (l.length ≤ 60) := Lib.hid (by omega)
    clear h60
    have HC := Lib.hid (rcheck_calls _ _ HA.out)
    go_wp2_with fail
    refine HC.out.mono ?_
    rintro e w1 ⟨rfl, hw1⟩
    rw [hw1]
    clear hw1 w1 HC
    dsimp only
    by_cases hck : l.all checkF = true
    · rw [hck]
      have HCK := Lib.hid hck
      have hL1 : SeesL (w.alloc (.cells #[.slice none 0 0] 26)) (.slice (some ⟨w.heap.size, 0, none⟩) 1 1) [[]] := SeesL.of_blk (us := [_]) (l := [[]]) (blk_new _) rfl (by decide) fun i u x hu hx => by
        match i with
        | 0 => cases hu; cases hx; exact (sees_nil _ _).weak
        | i + 1 => simp at hu
      have HC := Lib.hid (rcheck_calls _ _ hL1)
      have he : ([[]] : List (List Int)).all checkF = true := rfl
      rw [he] at HC
      clear hck hL1 he
      simp only [errOf, if_true] at HC ⊢
      go_wp2_with fail
      refine HC.out.mono ?_
      rintro e w1 ⟨rfl, hw1⟩
      rw [hw1]
      clear hw1 w1 HC
      dsimp only
      obtain ⟨w1, hw1⟩ : ∃ w1, w1 = w.alloc (.cells #[.slice none 0 0] 26) := ⟨_, rfl⟩
      have HF1 : Hid (Frm (fun _ => False) w w1) := Lib.hid (by rw [hw1]; exact frm_alloc _ _)
      rw [← hw1]
      clear hw1
      have HE := Lib.hid (row_empty (enc := encS) (blk_new (w := w1) (.cells #[] 26)))
      go_wp2_with (first | (at_builtin; refine wpList_append_want (by rfl) _ _ 36 rfl 26 i0 (.slice none 0 0) 24 Try.underlying36 hi hz0 hz1 hz2 rfl (enc := encS) encS_one (.slice (some ⟨w1.heap.size, 0, none⟩) 0 0) [] xs rfl HE.out (.slice VA l.length ca) rfl (HX1.out.frm0 (HF1.out.alloc _)) ?c1 ?c2 ?_) | fail)
      case c1 => have := HL.out; have := HX2.out; have : maxLen = 9223372036854775807 := rfl; simp; omega
      case c2 => have := HL.out; have := HX2.out; simp; omega
      intro v4 w4 hr4 hf4 hg4
      have hF4 : Frm (fun _ => False) w w4 := (HF1.out.alloc (.cells #[] 26)).trans hf4 fun b hb e => by
        have := HF1.out.size
        simp [Value.ownBlock] at e
        omega
      have HF4 := Lib.hid hF4
      have hown : ∀ g, v4.ownBlock = some g → w1.heap.size ≤ g := fun g hg => by
        rcases hg4 g hg with e | e
        · simp [Value.ownBlock] at e; omega
        · rw [e]; simp
      have HOW := Lib.hid hown
      have HR4 := Lib.hid (hr4.frm (frm_alloc w4 (.cells #[.slice none 0 0] 26)) fun _ _ => id)
      have hxl : ([] ++ xs).length = xs.length := rfl
      clear hr4 hf4 hg4 hF4 hown HE
      have HS4 := Lib.hid (show SeesW (w4.alloc (.cells #[.slice none 0 0] 26)) encS (.slice (some ⟨w4.heap.size, 0, none⟩) 1 1) [(none, 0, 0)] from (sees_of_blk (enc := encS) (xs := [((none : Option Addr), 0, 0)]) (n := 1) (blk_new _) rfl rfl (by decide)).weak)
      go_wp2_with (first | (at_builtin; refine wpList_append_want (by rfl) _ _ 36 rfl 26 i0 (.slice none 0 0) 24 Try.underlying36 hi hz0 hz1 hz2 rfl (enc := encS) encS_one v4 xs [(none, 0, 0)] rfl HR4.out (.slice (some ⟨w4.heap.size, 0, none⟩) 1 1) rfl HS4.out ?d1 ?d2 ?_) | fail)
      case d1 => have := HL.out; have := HX2.out; have : maxLen = 9223372036854775807 := rfl; simp; omega
      case d2 => have := HL.out; have := HX2.out; simp; omega
      intro v5 w5 hr5 hf5 hg5
      have hF5 : Frm (fun _ => False) w w5 := (HF4.out.alloc (.cells #[.slice none 0 0] 26)).trans hf5 fun b hb e => by
        have := HOW.out b e
        have := HF1.out.size
        omega
      have HF5 := Lib.hid hF5
      have hLL : SeesL w5 v5 (l ++ [[]]) := by
        have hs := hr5.sees.weak
        refine SeesL.of_elems hs (by simp [HX2.out]) fun i t c ht hc => ?_
        by_cases h : i < l.length
        · rw [List.getElem?_append_left (by rw [HX2.out]; exact h)] at ht
          rw [List.getElem?_append_left h] at hc
          exact (HX3.out i t c ht hc).frm0 hF5
        · rw [List.getElem?_append_right (by rw [HX2.out]; omega)] at ht
          rw [List.getElem?_append_right (by omega)] at hc
          have h1 := get_lt ht
          simp at h1
          have h2 : i - xs.length = 0 := by omega
          have h3 : i - l.length = 0 := by rw [← HX2.out]; exact h2
          rw [h2] at ht
          rw [h3] at hc
          cases ht
          cases hc
          exact (sees_nil _ _).weak
      have HM := Lib.hid (most_calls _ _ hLL)
      clear hr5 hf5 hg5 hF5 hLL HR4 HOW HF4 hxl HS4
      go_wp2_with fail
      refine HM.out.mono ?_
      rintro e w6 ⟨rfl, hw6⟩
      rw [hw6]
      clear hw6 w6 HM
      dsimp only
      by_cases h10 : mostF (l ++ [[]]) ≤ 10
      · have e3 : decide ((10 : Int) < mostF (l ++ [[]])) = false := by simp; omega
        clear h10
        go_wp2_with fail
        go_loopw [5] (fun v5 w' => ∃ j : Nat, v5 = .int .i64 j ∧ j ≤ l.length ∧ Hid (∀ c ∈ l.take j, c.length ≤ 10) ∧ w' = w5) (fun v5 _ => l.length - (intOf v5).toNat)
        case atStart => exact ⟨0, rfl, by omega, Lib.hid (fun c hc => by simp at hc), rfl⟩
        case round =>
          obtain ⟨j, rfl, hj, hT, hw⟩ := hrel
          subst hw
          by_cases hjl : j < l.length
          · have hjI : (j : Int) < (l.length : Int) := by omega
            obtain ⟨c, hc⟩ : ∃ c, l[j]? = some c := ⟨_, List.getElem?_eq_getElem hjl⟩
            obtain ⟨ga, oa, u, rfl, xa, hu⟩ := hcA.out j c hc
            have hcl : c.length ≤ 9223372036854775807 := hu.len
            obtain ⟨VC, cc, rfl, hcc⟩ := hu.slice
            have ya : wr.cell? ⟨ga, oa + j, none⟩ = some (.slice VC c.length cc) := (World.cell?_of_block (HF5.out.block ga (World.block_lt_of_cell? _ _ xa) id)).trans xa
            have HC := Lib.hid hc
            clear hc hu hcc xa
            by_cases hc10 : (c.length : Int) ≤ 10
            · have e5 : decide ((10 : Int) < (c.length : Int)) = false := by simp; omega
              have hT2 : Hid (∀ x ∈ l.take (j + 1), x.length ≤ 10) := Lib.hid fun x hx => by
                rw [List.take_add_one, HC.out] at hx
                rcases List.mem_append.1 hx with hx | hx
                · exact hT.out x hx
                · simp at hx; subst hx; omega
              clear hc10 hT
              go_wp2
              go_roundw
              case rel => exact ⟨j + 1, rfl, hjl, hT2, by trivial⟩
              case measure => simp only [intOf]; omega
            · have e5 : decide ((10 : Int) < (c.length : Int)) = true := by simp; omega
              clear hc10 hT
              go_wp2
              go_ret
              exact ⟨false, rfl, HF5.out, fun e => by cases e⟩
          · have hjI : ¬ (j : Int) < (l.length : Int) := by omega
            have hall : Hid (∀ c ∈ l, c.length ≤ 10) := Lib.hid (by have h1 := hT.out; rw [List.take_of_length_le (by omega)] at h1; exact h1)
            clear hT
            go_wp2
            go_ret
            exact .inr ⟨rfl, HF5.out, fun c hc => List.all_eq_true.1 HCK.out c hc, HL.out, hall.out⟩
      · have e3 : decide ((10 : Int) < mostF (l ++ [[]])) = true := by simp; omega
        clear h10
        go_wp2
        go_ret
        exact ⟨false, rfl, HF5.out, fun e => by cases e⟩
    · rw [Bool.not_eq_true] at hck
      rw [hck]
      simp only [errOf, Bool.false_eq_true, if_false]
      clear hck
      go_wp2
      go_ret
      exact ⟨false, rfl, Frm.refl _ _, fun e => by cases e⟩
  · have e1 : decide ((60 : Int) < (l.length : Int)) = true := by simp; omega
    clear h60
    go_wp2
    go_ret
    exact ⟨false, rfl, Frm.refl _ _, fun e => by cases e⟩
end
end SaW
end Go.Proofs.Ytfpjfogddepbkaa
/- Bitwise operations at natural numbers of few bits. -/
namespace Go.Mem
open Go

theorem ofInt_nat (a : Nat) (ha : a < 4611686018427387904) : (BitVec.ofInt IntKind.i64.bits (a : Int)).toNat = a := by
  show (BitVec.ofInt 64 (a : Int)).toNat = a
  rw [BitVec.ofInt_natCast, BitVec.toNat_ofNat]
  exact Nat.mod_eq_of_lt (by omega)
theorem wrap_nat (a : Nat) (ha : a < 4611686018427387904) : IntKind.i64.wrap (a : Int) = a := by
  simp only [IntKind.wrap, IntKind.bits, IntKind.signed]
  simp
  omega
theorem bits_xor_i64 (a b : Nat) (ha : a < 4611686018427387904) (hb : b < 4611686018427387904) : bits .xor .i64 (a : Int) (b : Int) = ((a ^^^ b : Nat) : Int) := by
  unfold bits
  simp only [BitVec.toNat_xor, ofInt_nat a ha, ofInt_nat b hb]
  exact wrap_nat _ (Nat.xor_lt_two_pow (n := 62) ha hb)
theorem bits_and_i64 (a b : Nat) (ha : a < 4611686018427387904) (hb : b < 4611686018427387904) : bits .and .i64 (a : Int) (b : Int) = ((a &&& b : Nat) : Int) := by
  unfold bits
  simp only [BitVec.toNat_and, ofInt_nat a ha, ofInt_nat b hb]
  exact wrap_nat _ (Nat.and_lt_two_pow (n := 62) a hb)
theorem bits_and_one (a : Nat) (ha : a < 4611686018427387904) : bits .and .i64 (a : Int) 1 = ((a % 2 : Nat) : Int) := by
  have := bits_and_i64 a 1 ha (by decide)
  rw [Nat.and_one_is_mod] at this
  exact this
theorem test_bit (i s : Nat) (hi : i < 4611686018427387904) : (bits .and .i64 ((i : Int) / 2 ^ s) 1 == 1) = i.testBit s := by
  have e : ((i : Int) / 2 ^ s) = ((i / 2 ^ s : Nat) : Int) := by simp
  rw [e, bits_and_one _ (Nat.lt_of_le_of_lt (Nat.div_le_self _ _) hi), Nat.testBit_eq_decide_div_mod_eq]
  rw [Bool.eq_iff_iff]; simp; omega
end Go.Mem
/- The document's Models at six variables, walked. -/
namespace Go.Proofs.Ytfpjfogddepbkaa
open Go.RowKit Go.Mem Go.Sat
namespace SaW
theorem row_pick {α : Type} {w : World} {e : TypeId} {enc : α → Value} {v : Value} {l : List α} {i : Nat} {x : α} (h : Row w e enc v l) (hi : l[i]? = some x) : ∃ g c, v = .slice (some ⟨g, 0, none⟩) l.length c ∧ w.cell? ⟨g, i, none⟩ = some (enc x) := by
  rcases h.shape with ⟨_, rfl⟩ | ⟨g, c, h1, _, _, _, h2, _⟩
  · simp at hi
  · exact ⟨g, c, h1, h2 i x hi⟩
theorem isL_take {v i : Nat} (h : i < 6) : (isL v).take (i + 1) = (isL v).take i ++ [if v.testBit i then (i : Int) + 1 else -((i : Int) + 1)] := by
  rw [List.take_add_one, isL_at h]; rfl
/-- How many ways there are before some number. -/
def upTo (l : List (List Int)) (v : Nat) : Nat := ((List.range v).filter fun x => holdsF l (isL x)).length
theorem upTo_succ (l : List (List Int)) (v : Nat) : upTo l (v + 1) = upTo l v + if holdsF l (isL v) = true then 1 else 0 := by
  unfold upTo
  rw [List.range_succ, List.filter_append, List.length_append]
  cases hb : holdsF l (isL v) <;> simp [hb]
theorem upTo_le (l : List (List Int)) (v : Nat) : upTo l v ≤ v := by
  have := List.length_filter_le (fun x => holdsF l (isL x)) (List.range v)
  simpa [upTo] using this
section
variable {w : World}
set_option maxRecDepth 100000 in
set_option maxHeartbeats 2000000 in
theorem models_calls (va : Value) (l : List (List Int)) (hA : SeesL w va l) : Calls Try.prog 16 #[va, .int .i64 6] w fun e w' => ∃ A c, e = .returned (.slice A (goodI l).length c) ∧ Frm (fun _ => False) w w' := by
  obtain ⟨i0, hi, hz0, hz1, hz2⟩ := info_parts info_ints
  obtain ⟨j0, ji, jz0, jz1, jz2⟩ := info_parts info_int
  obtain ⟨VA, ca, rfl, _⟩ := hA.slice
  have HA := Lib.hid hA
  clear hA
  go_enter Try.func16, Try.ntmps16
  go_wp2_with fail
  have hf1 := frm_alloc w (.cells #[] 26)
  have HO1 : Hid (∃ xs, Row (w.alloc (.cells #[] 26)) 26 encS (.slice (some ⟨w.heap.size, 0, none⟩) 0 0) xs ∧ xs.length = upTo l 0 ∧ Frm (fun _ => False) w (w.alloc (.cells #[] 26)) ∧ ∀ g, (Value.slice (some ⟨w.heap.size, 0, none⟩) 0 0).ownBlock = some g → w.heap.size ≤ g) := Lib.hid ⟨[], row_empty (blk_new _), rfl, hf1, fun g e => by cases e; exact Nat.le_refl _⟩
  clear hf1
  go_loopw [5, 6] (fun v5 v6 w' => ∃ v : Nat, v6 = .int .i64 v ∧ v ≤ 64 ∧ Hid (∃ xs, Row w' 26 encS v5 xs ∧ xs.length = upTo l v ∧ Frm (fun _ => False) w w' ∧ ∀ g, v5.ownBlock = some g → w.heap.size ≤ g)) (fun _ v6 _ => 64 - (intOf v6).toNat)
  case atStart => exact ⟨0, rfl, by omega, HO1⟩
  case round =>
    obtain ⟨v, rfl, hv, HO⟩ := hrel
    clear HO1
    by_cases hvl : v < 64
    · have hvI : (v : Int) < 64 := by omega
      obtain ⟨xs, r5, hxl, hF, hown⟩ := HO.out
      have HR5 := Lib.hid r5
      have HXL := Lib.hid hxl
      have HF := Lib.hid hF
      have HOW := Lib.hid hown
      clear HO r5 hxl hF hown
      go_wp2_with fail
      have HI1 : Hid (Row (wr.alloc (.cells #[] 3)) 3 iI (.slice (some ⟨wr.heap.size, 0, none⟩) 0 0) ((isL v).take 0) ∧ Frm (fun _ => False) wr (wr.alloc (.cells #[] 3)) ∧ ∀ g, (Value.slice (some ⟨wr.heap.size, 0, none⟩) 0 0).ownBlock = some g → wr.heap.size ≤ g) := Lib.hid ⟨row_empty (blk_new _), frm_alloc _ _, fun g e => by cases e; exact Nat.le_refl _⟩
      obtain ⟨w0, hw0⟩ : ∃ w0 : World, w0 = wr := ⟨_, rfl⟩
      have HW0 := Lib.hid hw0
      go_loopw [7, 8] (fun v7 v8 w' => ∃ i : Nat, v8 = .int .i64 i ∧ i ≤ 6 ∧ Hid (Row w' 3 iI v7 ((isL v).take i) ∧ Frm (fun _ => False) w0 w' ∧ ∀ g, v7.ownBlock = some g → w0.heap.size ≤ g)) (fun _ v8 _ => 6 - (intOf v8).toNat)
      case atStart => exact ⟨0, rfl, by omega, by rw [HW0.out]; exact HI1⟩
      case round =>
        obtain ⟨i, rfl, hi6, HI⟩ := hrel
        clear HI1
        by_cases hil : i < 6
        · have hiI : (i : Int) < 6 := by omega
          have hb := test_bit v i (by omega)
          have hlen : ((isL v).take i).length = i := by rw [List.length_take, isL_len]; omega
          have HLEN := Lib.hid hlen
          have HTK := Lib.hid (isL_take (v := v) hil)
          clear hlen
          cases ht : v.testBit i with
          | true =>
            rw [ht] at hb HTK
            simp only [if_true] at HTK
            clear ht
            have HR7 := Lib.hid (HI.out.1.frm (frm_alloc wr (.cells #[.int .i64 ((i : Int) + 1)] 3)) fun _ _ => id)
            go_wp2_with (first | (at_builtin; refine wpList_append_row rfl _ _ 26 rfl 3 j0 (.int .i64 0) 8 Try.underlying26 ji jz0 jz1 jz2 rfl (enc := iI) u7 ((isL v).take i) rfl HR7.out ⟨wr.heap.size, 0, none⟩ 1 ((i : Int) + 1) rfl ?c1 rfl ?c2 ?c3 ?_) | fail)
            case c1 => exact blk_cell (blk_new _) 0
            case c2 => rw [HLEN.out]; have : maxLen = 9223372036854775807 := rfl; omega
            case c3 => rw [HLEN.out]; omega
            intro g9 cap9 w9 hr9 hf9 hg9 hl9
            have HI2 : Hid (Row w9 3 iI (.slice (some ⟨g9, 0, none⟩) (min i (isL v).length + 1) cap9) ((isL v).take (i + 1)) ∧ Frm (fun _ => False) w0 w9 ∧ ∀ g, (Value.slice (some ⟨g9, 0, none⟩) (min i (isL v).length + 1) cap9).ownBlock = some g → w0.heap.size ≤ g) := Lib.hid (by
              refine ⟨by rw [HTK.out]; exact hr9, (HI.out.2.1.alloc _).trans hf9 fun b hb' e => by have := HI.out.2.2 b e; omega, fun g e => ?_⟩
              cases e
              rcases hg9 with e | e
              · exact HI.out.2.2 _ e
              · have := HI.out.2.1.size; show w0.heap.size ≤ g9; first | omega | (simp at e; omega))
            clear hr9 hf9 hg9 hl9 HI HR7 hb
            go_wp2
            go_roundw
            case rel => exact ⟨i + 1, rfl, hil, HI2⟩
            case measure => simp only [intOf]; omega
          | false =>
            rw [ht] at hb HTK
            simp only [Bool.false_eq_true, if_false] at HTK
            clear ht
            have hng : -(i : Int) - 1 = -((i : Int) + 1) := by omega
            have HR7 := Lib.hid (HI.out.1.frm (frm_alloc wr (.cells #[.int .i64 (-(i : Int) - 1)] 3)) fun _ _ => id)
            have HNG := Lib.hid hng
            clear hng
            go_wp2_with (first | (at_builtin; refine wpList_append_row rfl _ _ 26 rfl 3 j0 (.int .i64 0) 8 Try.underlying26 ji jz0 jz1 jz2 rfl (enc := iI) u7 ((isL v).take i) rfl HR7.out ⟨wr.heap.size, 0, none⟩ 1 (-(i : Int) - 1) rfl ?c1 rfl ?c2 ?c3 ?_) | fail)
            case c1 => exact blk_cell (blk_new _) 0
            case c2 => rw [HLEN.out]; have : maxLen = 9223372036854775807 := rfl; omega
            case c3 => rw [HLEN.out]; omega
            intro g9 cap9 w9 hr9 hf9 hg9 hl9
            have HI2 : Hid (Row w9 3 iI (.slice (some ⟨g9, 0, none⟩) (min i (isL v).length + 1) cap9) ((isL v).take (i + 1)) ∧ Frm (fun _ => False) w0 w9 ∧ ∀ g, (Value.slice (some ⟨g9, 0, none⟩) (min i (isL v).length + 1) cap9).ownBlock = some g → w0.heap.size ≤ g) := Lib.hid (by
              refine ⟨by rw [HTK.out, ← HNG.out]; exact hr9, (HI.out.2.1.alloc _).trans hf9 fun b hb' e => by have := HI.out.2.2 b e; omega, fun g e => ?_⟩
              cases e
              rcases hg9 with e | e
              · exact HI.out.2.2 _ e
              · have := HI.out.2.1.size; show w0.heap.size ≤ g9; first | omega | (simp at e; omega))
            clear hr9 hf9 hg9 hl9 HI HR7 hb
            go_wp2
            go_roundw
            case rel => exact ⟨i + 1, rfl, hil, HI2⟩
            case measure => simp only [intOf]; omega
        · have hiI : ¬ (i : Int) < 6 := by omega
          have htk : (isL v).take i = isL v := List.take_of_length_le (by rw [isL_len]; omega)
          have HI7 : Hid (Row wr 3 iI u7 (isL v) ∧ Frm (fun _ => False) w0 wr ∧ ∀ g, u7.ownBlock = some g → w0.heap.size ≤ g) := by rw [htk] at HI; exact HI
          obtain ⟨g7, c7, h7, _⟩ := row_pick HI7.out.1 (isL_at (v := v) (i := 0) (by decide))
          rw [isL_len] at h7
          subst h7
          have hF0 : Frm (fun _ => False) w w0 := by rw [HW0.out]; exact HF.out
          have hF1 : Frm (fun _ => False) w wr := hF0.trans HI7.out.2.1 fun _ _ e => e.elim
          have HF1 := Lib.hid hF1
          have HH := Lib.hid (holds_calls _ _ _ _ (HA.out.frm0 hF1) HI7.out.1.sees)
          have hR0 : Row w0 26 encS u5 xs := by rw [HW0.out]; exact HR5.out
          have hR5 : Row wr 26 encS u5 xs := hR0.frm HI7.out.2.1 fun _ _ => id
          have HR5' := Lib.hid hR5
          have hup := upTo_succ l v
          clear htk HI hF0 hF1 hR0 hR5 HR5
          go_wp2_with fail
          refine HH.out.mono ?_
          rintro e w8 ⟨rfl, hw8⟩
          rw [hw8]
          clear hw8 w8 HH
          dsimp only
          cases hh : holdsF l (isL v) with
          | true =>
            rw [hh] at hup
            simp only [if_true] at hup
            have HUP := Lib.hid hup
            have hle := upTo_le l v
            have HXL2 : Hid (xs.length ≤ 64) := Lib.hid (by rw [HXL.out]; omega)
            have HR6 := Lib.hid (HR5'.out.frm (frm_alloc wr (.cells #[.slice (some ⟨g7, 0, none⟩) 6 c7] 26)) fun _ _ => id)
            clear hh hup hle
            go_wp2_with (first | (at_builtin; refine wpList_append_row rfl _ _ 36 rfl 26 i0 (.slice none 0 0) 24 Try.underlying36 hi hz0 hz1 hz2 rfl (enc := encS) u5 xs rfl HR6.out ⟨wr.heap.size, 0, none⟩ 1 (some ⟨g7, 0, none⟩, 6, c7) rfl ?d1 rfl ?d2 ?d3 ?_) | fail)
            case d1 => exact blk_cell (blk_new _) 0
            case d2 => have := HXL2.out; have : maxLen = 9223372036854775807 := rfl; omega
            case d3 => have := HXL2.out; omega
            intro g9 cap9 w9 hr9 hf9 hg9 hl9
            have HO2 : Hid (∃ xs2, Row w9 26 encS (.slice (some ⟨g9, 0, none⟩) (xs.length + 1) cap9) xs2 ∧ xs2.length = upTo l (v + 1) ∧ Frm (fun _ => False) w w9 ∧ ∀ g, (Value.slice (some ⟨g9, 0, none⟩) (xs.length + 1) cap9).ownBlock = some g → w.heap.size ≤ g) := Lib.hid (by
              refine ⟨_, hr9, by rw [List.length_append, HXL.out, HUP.out]; rfl, (HF1.out.alloc _).trans hf9 fun b hb' e => by have := HOW.out b e; omega, fun g e => ?_⟩
              cases e
              rcases hg9 with e | e
              · exact HOW.out _ e
              · have := HF1.out.size; show w.heap.size ≤ g9; first | omega | (simp at e; omega))
            clear hr9 hf9 hg9 hl9 HR6 HR5'
            go_wp2
            go_roundw
            case rel => exact ⟨v + 1, rfl, hvl, HO2⟩
            case measure => simp only [intOf]; omega
          | false =>
            rw [hh] at hup
            simp only [Bool.false_eq_true, if_false] at hup
            have HO2 : Hid (∃ xs2, Row wr 26 encS u5 xs2 ∧ xs2.length = upTo l (v + 1) ∧ Frm (fun _ => False) w wr ∧ ∀ g, u5.ownBlock = some g → w.heap.size ≤ g) := Lib.hid ⟨xs, HR5'.out, by rw [HXL.out, hup]; rfl, HF1.out, HOW.out⟩
            clear hh hup
            go_wp2
            go_roundw
            case rel => exact ⟨v + 1, rfl, hvl, HO2⟩
            case measure => simp only [intOf]; omega
    · have hvI : ¬ (v : Int) < 64 := by omega
      obtain rfl : v = 64 := by omega
      obtain ⟨xs, r5, hxl, hF, _⟩ := HO.out
      obtain ⟨A, c, h5, _⟩ := r5.sees.weak.slice
      have hgl : xs.length = (goodI l).length := hxl
      rw [hgl] at h5
      subst h5
      have HF := Lib.hid hF
      clear HO r5 hxl hF hgl
      go_wp2
      go_ret
      exact ⟨⟨A, c, rfl⟩, HF.out⟩
end
end SaW
end Go.Proofs.Ytfpjfogddepbkaa
/- SatCounts, walked. -/
namespace Go.Proofs.Ytfpjfogddepbkaa
open Go.RowKit Go.Mem Go.Sat
namespace SaW
theorem row_two {α : Type} {w : World} {e : TypeId} {enc : α → Value} {g : Nat} {x y : α} (h : w.heap[g]? = some (.cells #[enc x, enc y] e (0, 0))) : Row w e enc (.slice (some ⟨g, 0, none⟩) 2 2) [x, y] := ⟨by simp, .inr ⟨g, 2, #[enc x, enc y], rfl, Nat.zero_le _, h, Nat.le_refl _, by decide, by simp, by simp⟩⟩
theorem neg_take {v k : Nat} {x : Int} (h : (isL v)[k]? = some x) : ((isL v).map fun n => -n).take (k + 1) = ((isL v).map fun n => -n).take k ++ [-x] := by
  rw [List.take_add_one, List.getElem?_map, h]; rfl
set_option maxRecDepth 100000 in
set_option maxHeartbeats 4000000 in
theorem counts_walk (w : World) (va : Value) (l : List (List Int)) (hA : SeesL w va l) : Calls Try.prog 5 #[va] w fun e w' => e = .returned (.bool true) ∧ Frm (fun _ => False) w w' := by
  obtain ⟨i0, hi, hz0, hz1, hz2⟩ := info_parts info_ints
  obtain ⟨j0, ji, jz0, jz1, jz2⟩ := info_parts info_int
  have hla : l.length ≤ 9223372036854775807 := hA.len
  obtain ⟨xs, hx1, hx2, hx3⟩ := hA.elems
  have HX1 := Lib.hid hx1
  have HX2 := Lib.hid hx2
  have HX3 := Lib.hid hx3
  obtain ⟨VA, ca, rfl, _⟩ := hA.slice
  have HA := Lib.hid hA
  have HFW := Lib.hid (few_calls _ _ hA)
  have HAW := Lib.hid (fun W => awake_calls W)
  clear hA hx1 hx2 hx3
  go_enter Try.func5, Try.ntmps5
  go_wp2_with fail
  refine HFW.out.mono ?_
  rintro e w1 ⟨b, rfl, hf1, hb⟩
  have HF1 := Lib.hid hf1
  clear hf1 HFW
  dsimp only
  cases b with
  | false =>
    clear hb
    go_wp2_with fail
    refine (HAW.out _).mono ?_
    rintro e w2 ⟨rfl, hf⟩
    have HF2 := Lib.hid (HF1.out.trans hf fun _ _ e => e.elim)
    clear hf
    dsimp only
    go_wp2
    go_ret
    exact ⟨rfl, HF2.out⟩
  | true =>
  obtain ⟨hck, hl60, hl10⟩ := hb rfl
  have HCK := Lib.hid hck
  have HL10 := Lib.hid hl10
  clear hb hck hl10 hl60
  by_cases h30 : (l.length : Int) ≤ 30
  case neg =>
    have e1 : decide ((30 : Int) < (l.length : Int)) = true := by simp; omega
    clear h30
    go_wp2_with fail
    refine (HAW.out _).mono ?_
    rintro e w2 ⟨rfl, hf⟩
    have HF2 := Lib.hid (HF1.out.trans hf fun _ _ e => e.elim)
    clear hf
    dsimp only
    go_wp2
    go_ret
    exact ⟨rfl, HF2.out⟩
  have e1 : decide ((30 : Int) < (l.length : Int)) = false := by simp; omega
  have HL30 : Hid (l.length ≤ 30) := Lib.hid (by omega)
  have HM := Lib.hid (most_calls _ _ (HA.out.frm0 HF1.out))
  clear h30
  go_wp2_with fail
  refine HM.out.mono ?_
  rintro e w2 ⟨rfl, hw2⟩
  rw [hw2]
  clear hw2 w2 HM
  dsimp only
  by_cases h6 : mostF l ≤ 6
  case neg =>
    have e3 : decide ((6 : Int) < mostF l) = true := by simp; omega
    clear h6
    go_wp2_with fail
    refine (HAW.out _).mono ?_
    rintro e w2 ⟨rfl, hf⟩
    have HF2 := Lib.hid (HF1.out.trans hf fun _ _ e => e.elim)
    clear hf
    dsimp only
    go_wp2
    go_ret
    exact ⟨rfl, HF2.out⟩
  have e3 : decide ((6 : Int) < mostF l) = false := by simp; omega
  have HIN : Hid (InR l) := Lib.hid fun c hc n hn => most_bound (K := 6) h6 hc (List.all_eq_true.1 HCK.out c hc) n hn
  clear h6
  obtain ⟨w4, hw4⟩ : ∃ w4, w4 = ((w1.alloc (.cells #[.int .i64 1, .int .i64 (-1)] 3)).alloc (.cells #[.int .i64 6, .int .i64 (-6)] 3)).alloc (.cells #[.slice (some ⟨w1.heap.size, 0, none⟩) 2 2, .slice (some ⟨w1.heap.size + 1, 0, none⟩) 2 2] 26) := ⟨_, rfl⟩
  have hf4 : Frm (fun _ => False) w1 w4 := by rw [hw4]; exact ((frm_alloc w1 _).alloc _).alloc _
  have hb0 : w4.heap[w1.heap.size]? = some (.cells #[.int .i64 1, .int .i64 (-1)] 3) := by rw [hw4]; exact blk_alloc (blk_alloc (blk_new _) _) _
  have hb1 : w4.heap[w1.heap.size + 1]? = some (.cells #[.int .i64 6, .int .i64 (-6)] 3) := by rw [hw4]; exact blk_alloc (blk_new_at _ (by simp)) _
  have hb2 : w4.heap[w1.heap.size + 2]? = some (.cells #[encS (some ⟨w1.heap.size, 0, none⟩, 2, 2), encS (some ⟨w1.heap.size + 1, 0, none⟩, 2, 2)] 26) := by rw [hw4]; exact blk_new_at _ (by simp)
  have HR4 := Lib.hid (row_two hb2)
  have HX4 := Lib.hid (HX1.out.frm0 (HF1.out.trans hf4 fun _ _ e => e.elim))
  have HF4 := Lib.hid (HF1.out.trans hf4 fun _ _ e => e.elim)
  have HB0 := Lib.hid hb0
  have HB1 := Lib.hid hb1
  have HZ4 : Hid (w4.heap.size = w1.heap.size + 3) := Lib.hid (by rw [hw4]; simp)
  have HWW := Lib.hid hw4
  clear hw4 hf4 hb0 hb1 hb2
  have HR4' : Hid (Row (((w1.alloc (.cells #[.int .i64 1, .int .i64 (-1)] 3)).alloc (.cells #[.int .i64 6, .int .i64 (-6)] 3)).alloc (.cells #[.slice (some ⟨w1.heap.size, 0, none⟩) 2 2, .slice (some ⟨w1.heap.size + 1, 0, none⟩) 2 2] 26)) 26 encS (.slice (some ⟨w1.heap.size + 2, 0, none⟩) 2 2) [(some ⟨w1.heap.size, 0, none⟩, 2, 2), (some ⟨w1.heap.size + 1, 0, none⟩, 2, 2)]) := Lib.hid (by rw [← HWW.out]; exact HR4.out)
  have HX4' : Hid (SeesW (((w1.alloc (.cells #[.int .i64 1, .int .i64 (-1)] 3)).alloc (.cells #[.int .i64 6, .int .i64 (-6)] 3)).alloc (.cells #[.slice (some ⟨w1.heap.size, 0, none⟩) 2 2, .slice (some ⟨w1.heap.size + 1, 0, none⟩) 2 2] 26)) encS (.slice VA l.length ca) xs) := Lib.hid (by rw [← HWW.out]; exact HX4.out)
  go_wp2_with (first | (at_builtin; refine wpList_append_seesw rfl _ _ 36 rfl 26 i0 (.slice none 0 0) 24 Try.underlying36 hi hz0 hz1 hz2 rfl (enc := encS) encS_one (.slice (some ⟨w1.heap.size + 2, 0, none⟩) 2 2) [(some ⟨w1.heap.size, 0, none⟩, 2, 2), (some ⟨w1.heap.size + 1, 0, none⟩, 2, 2)] xs rfl HR4'.out (.slice VA l.length ca) rfl HX4'.out ?c1 ?c2 ?_) | fail)
  case c1 => have := HL30.out; have := HX2.out; have : maxLen = 9223372036854775807 := rfl; simp; omega
  case c2 => have := HL30.out; have := HX2.out; simp; omega
  intro v5 w5 hr5 hf5 hg5
  rw [← HWW.out] at hf5
  have hg5' : ∀ b, w.heap.size ≤ b → True := fun _ _ => trivial
  have hF5 : Frm (fun _ => False) w w5 := HF4.out.trans hf5 fun b hb e => by
    have := HF1.out.size
    simp [Value.ownBlock] at e
    omega
  have hF45 : Frm (fun b => b = w1.heap.size + 2) w4 w5 := hf5.mono fun b _ e => by simp [Value.ownBlock] at e; exact e.symm
  have hSL : SeesL w5 v5 ([1, -1] :: [6, -6] :: l) := by
    refine SeesL.of_elems hr5.sees.weak (by simp [HX2.out]) fun i t c ht hc => ?_
    match i with
    | 0 =>
      cases ht; cases hc
      exact (sees_two ((hF45.block _ (lt_of_block HB0.out) (by omega)).trans HB0.out)).weak
    | 1 =>
      cases ht; cases hc
      exact (sees_two ((hF45.block _ (lt_of_block HB1.out) (by omega)).trans HB1.out)).weak
    | i + 2 =>
      exact (HX3.out i t c (by simpa using ht) (by simpa using hc)).frm0 hF5
  obtain ⟨s0, hs0, hcnt⟩ := count_start HIN.out HL30.out
  have HCNT := Lib.hid hcnt
  have HMD := Lib.hid (made_calls v5 ([1, -1] :: [6, -6] :: l) hSL (fun c hc => by
    rcases List.mem_cons.1 hc with rfl | hc
    · exact ⟨rfl, by simp⟩
    · rcases List.mem_cons.1 hc with rfl | hc
      · exact ⟨rfl, by simp⟩
      · exact ⟨List.all_eq_true.1 HCK.out c hc, by have := HL10.out c hc; omega⟩) 6001 hs0)
  have HF5 := Lib.hid hF5
  clear hr5 hf5 hg5 hg5' hF5 hF45 hSL hs0 hcnt HR4 HR4' HX4 HX4' HB0 HB1 HZ4 HWW HF4
  go_wp2_with fail
  refine HMD.out.mono ?_
  rintro e w6 ⟨p, R6, rfl, hO⟩
  have HO6 := Lib.hid (hO.base HF5.out)
  clear hO HMD HF5
  dsimp only
  go_wp2_with fail
  refine (HAW.out _).mono ?_
  rintro e w7 ⟨rfl, hf⟩
  have HO7 := Lib.hid (HO6.out.frm0 hf)
  clear hf HO6 HAW
  dsimp only
  have HMO := Lib.hid (models_calls _ _ (HA.out.frm0 HO7.out.frm))
  go_wp2_with fail
  refine HMO.out.mono ?_
  rintro e w8 ⟨GA, gc, rfl, hf⟩
  have HO8 := Lib.hid (HO7.out.frm0 hf)
  obtain ⟨W, hW⟩ : ∃ W, W = (goodI l).length := ⟨_, rfl⟩
  have hW64 : W ≤ 64 := by rw [hW]; exact good_len l
  have HWL := Lib.hid hW
  rw [← hW]
  clear hf HO7 HMO hW
  dsimp only
  go_wp2_with fail
  go_loopw [5] (fun v5 w' => ∃ i : Nat, v5 = .int .i64 i ∧ i ≤ W ∧ ∃ F s Rj, Hid (F.length = i ∧ Cnt l F s) ∧ Hid (Own w Rj w' p s)) (fun v5 _ => 65 - (intOf v5).toNat)
  case atStart => exact ⟨0, rfl, by omega, [], s0, R6, Lib.hid ⟨rfl, HCNT.out⟩, HO8⟩
  case round =>
    obtain ⟨i, rfl, hiW, F, s, Rj, HC, HOj⟩ := hrel
    clear HO8 HCNT
    have hiI : (i : Int) ≤ (W : Int) := by omega
    obtain ⟨a, s', hsv, hor⟩ := count_round HIN.out HL30.out HC.out.2
    have HOR := Lib.hid hor
    have HSV := Lib.hid (solve_calls HOj.out.sol (.slice none 0 0) [] (sees_nil _ _) outOf_nil (by decide) rfl 6001 0 _ _ hsv)
    clear hsv hor
    go_wp2_with fail
    refine HSV.out.mono ?_
    rintro e w9 ⟨vm1, vc1, R9, rfl, rm, rc, ho, hS, hM⟩
    obtain ⟨h1, h2⟩ := HOj.out.ans hS hM rm rc fun g hg => (ho g hg).1
    have HO10 := Lib.hid h1
    have HA10 := Lib.hid h2
    obtain ⟨MA, mc, rfl, _⟩ := sees_slice rm.sees
    obtain ⟨CA, cc, rfl, _⟩ := sees_slice rc.sees
    obtain ⟨sat, model, core⟩ := a
    clear rm rc ho hS hM h1 h2 HOj HSV
    dsimp only
    rcases HOR.out with ⟨hs1, hlt, v, hvg, hmod, s2, hadd, hcnt2⟩ | ⟨hs1, hge⟩
    · simp only at hs1 hmod
      subst hs1 hmod
      rw [HC.out.1, ← HWL.out] at hlt
      have hltI : (i : Int) < (W : Int) := by omega
      have HCN := Lib.hid hcnt2
      have HAD := Lib.hid hadd
      have HVG := Lib.hid hvg
      have hm6 : (isL v).length = 6 := isL_len v
      rw [hm6] at HO10 HA10 ⊢
      clear HOR hcnt2 hadd hvg hm6
      go_wp2_with fail
      obtain ⟨w10, hw10⟩ : ∃ w10, w10 = w9.alloc (.cells #[.bool true, .slice MA 6 mc, .slice CA core.length cc] 30) := ⟨_, rfl⟩
      have hz10 : w10.heap.size = w9.heap.size + 1 := by rw [hw10]; simp
      have HO11 := Lib.hid (show Own w R9 w10 p s' from hw10 ▸ HO10.out)
      have HA11 := Lib.hid (show AnsAt R9 w10 w9.heap.size (.slice MA 6 mc) (.slice CA core.length cc) ⟨true, isL v, core⟩ from hw10 ▸ HA10.out)
      have HI1 : Hid (Row (w10.alloc (.cells #[] 3)) 3 iI (.slice (some ⟨w9.heap.size + 1, 0, none⟩) 0 0) (((isL v).map fun n => -n).take 0) ∧ Frm (fun _ => False) w10 (w10.alloc (.cells #[] 3)) ∧ ∀ g, (Value.slice (some ⟨w9.heap.size + 1, 0, none⟩) 0 0).ownBlock = some g → w10.heap.size ≤ g) := Lib.hid (by
        rw [← hz10]
        exact ⟨row_empty (blk_new _), frm_alloc _ _, fun g e => by cases e; exact Nat.le_refl _⟩)
      rw [← hw10]
      clear hw10 hz10 HO10 HA10
      go_loopw [8, 9] (fun v8 v9 w' => ∃ k : Nat, v9 = .int .i64 k ∧ k ≤ 6 ∧ Hid (Row w' 3 iI v8 (((isL v).map fun n => -n).take k) ∧ Frm (fun _ => False) w10 w' ∧ ∀ g, v8.ownBlock = some g → w10.heap.size ≤ g)) (fun _ v9 _ => 6 - (intOf v9).toNat)
      case atStart => exact ⟨0, rfl, by omega, HI1⟩
      case round =>
        obtain ⟨k, rfl, hk6, HI⟩ := hrel
        clear HI1
        have HA12 := Lib.hid (HA11.out.frm0 HI.out.2.1)
        have x1 : wr.cell? ⟨w9.heap.size, 1, none⟩ = some (.slice MA 6 mc) := blk_cell HA12.out.blk 1
        by_cases hkl : k < 6
        · have hkI : (k : Int) < 6 := by omega
          obtain ⟨x, hx⟩ : ∃ x, (isL v)[k]? = some x := ⟨_, List.getElem?_eq_getElem (by rw [isL_len]; exact hkl)⟩
          have hxr := isL_range x (List.mem_of_getElem? hx)
          have hng : wrap64 (-x) = -x := by unfold wrap64; omega
          obtain ⟨gm, cm, e1, xm⟩ := row_pick HA12.out.model hx
          rw [isL_len] at e1
          cases e1
          have hlen : (((isL v).map fun n => -n).take k).length = k := by rw [List.length_take, List.length_map, isL_len]; omega
          have HLEN := Lib.hid hlen
          have HMIN : Hid (min k (isL v).length = k) := Lib.hid (by rw [isL_len]; omega)
          have HTK := Lib.hid (neg_take hx)
          have HR8 := Lib.hid (HI.out.1.frm (frm_alloc wr (.cells #[.int .i64 (-x)] 3)) fun _ _ => id)
          clear hx hxr hlen
          go_wp2_with (first | (at_builtin; refine wpList_append_row rfl _ _ 26 rfl 3 j0 (.int .i64 0) 8 Try.underlying26 ji jz0 jz1 jz2 rfl (enc := iI) u8 (((isL v).map fun n => -n).take k) rfl HR8.out ⟨wr.heap.size, 0, none⟩ 1 (-x) rfl ?d1 rfl ?d2 ?d3 ?_) | fail)
          case d1 => exact blk_cell (blk_new _) 0
          case d2 => rw [HLEN.out]; have : maxLen = 9223372036854775807 := rfl; omega
          case d3 => rw [HLEN.out]; omega
          intro g12 cap12 w12 hr12 hf12 hg12 hl12
          have HI2 : Hid (Row w12 3 iI (.slice (some ⟨g12, 0, none⟩) (k + 1) cap12) (((isL v).map fun n => -n).take (k + 1)) ∧ Frm (fun _ => False) w10 w12 ∧ ∀ g, (Value.slice (some ⟨g12, 0, none⟩) (k + 1) cap12).ownBlock = some g → w10.heap.size ≤ g) := Lib.hid (by
            rw [HMIN.out] at hr12
            refine ⟨by rw [HTK.out]; exact hr12, (HI.out.2.1.alloc _).trans hf12 fun b hb' e => by have := HI.out.2.2 b e; omega, fun g e => ?_⟩
            cases e
            rcases hg12 with e | e
            · exact HI.out.2.2 _ e
            · have := HI.out.2.1.size; show w10.heap.size ≤ g12; first | omega | (simp at e; omega))
          rw [HMIN.out]
          clear hr12 hf12 hg12 hl12 HI HR8 hng xm x1 HA12
          go_wp2
          go_roundw
          case rel => exact ⟨k + 1, rfl, hkl, HI2⟩
          case measure => simp only [intOf]; omega
        · have hkI : ¬ (k : Int) < 6 := by omega
          have htk : ((isL v).map fun n => -n).take k = (isL v).map fun n => -n := List.take_of_length_le (by rw [List.length_map, isL_len]; omega)
          have HI8 : Hid (Row wr 3 iI u8 ((isL v).map fun n => -n) ∧ Frm (fun _ => False) w10 wr ∧ ∀ g, u8.ownBlock = some g → w10.heap.size ≤ g) := by rw [htk] at HI; exact HI
          have HO12 := Lib.hid (HO11.out.frm0 HI8.out.2.1)
          have HH := Lib.hid (holds_calls _ (.slice MA 6 mc) _ _ (HA.out.frm0 HO12.out.frm) HA12.out.model.sees)
          have hgood : holdsF l (isL v) = true := by
            have := HVG.out
            unfold goodI at this
            exact (List.mem_filter.1 this).2
          simp only [hgood] at HH
          have hro : RowO w R9 wr u8 ((isL v).map fun n => -n) := ⟨HI8.out.1, fun g e => by
            have := HI8.out.2.2 g e
            exact ⟨HO11.out.fresh this, by have := HO11.out.frm.size; omega⟩⟩
          have hck : checkF ((isL v).map fun n => -n) = true := by
            unfold checkF
            rw [List.all_eq_true]
            intro n hn
            obtain ⟨m, hm, rfl⟩ := List.mem_map.1 hn
            have := isL_range m hm
            unfold rightF
            simp only [decide_eq_true_eq]
            omega
          have HAC := Lib.hid (add_calls HO12.out.sol u8 ((isL v).map fun n => -n) hro.1.sees hro.out (by rw [List.length_map, isL_len]; decide) hck 6001 HAD.out)
          clear htk HI hgood hro hck
          go_wp2_with fail
          refine HH.out.mono ?_
          rintro e w13 ⟨rfl, hw13⟩
          rw [hw13]
          clear hw13 w13 HH
          dsimp only
          go_wp2_with fail
          refine HAC.out.mono ?_
          rintro e w14 ⟨rfl, R14, hS, hM⟩
          have HO14 := Lib.hid (HO12.out.step hS hM)
          have HC2 : Hid ((v :: F).length = i + 1 ∧ Cnt l (v :: F) s2) := Lib.hid ⟨by simp only [List.length_cons, HC.out.1], HCN.out⟩
          clear hS hM HO12 HAC x1 HA12 HI8 HO11 HA11
          dsimp only
          go_wp2
          go_roundw
          case rel => exact ⟨i + 1, rfl, by omega, v :: F, s2, R14, HC2, HO14⟩
          case measure => simp only [intOf]; omega
    · simp only at hs1
      subst hs1
      rw [HC.out.1, ← HWL.out] at hge
      have hgeI : ¬ (i : Int) < (W : Int) := by omega
      have HF := Lib.hid HO10.out.frm
      clear HOR
      go_wp2
      go_ret
      exact ⟨rfl, HF.out⟩
end SaW
end Go.Proofs.Ytfpjfogddepbkaa
namespace Go.Proofs.Ytfpjfogddepbkaa
open Go.RowKit Go.Mem Go.Sat Go.ChangeShapes Go.WideShapes Go.ChangeAt Go.Deep
namespace SaW
set_option maxRecDepth 100000 in
theorem satCounts_lifted (os : Os) (started : os.Started) (H : Type) (enc : TypeId × Value → H) :
    ReturnsInHanded {} Try.checked os 5 .any (Rows.satCountsSpec.pre6 enc Try.prog Try.f5 Rows.satCountsRow.domain false) (Rows.satCountsSpec.post enc Try.prog Try.f5 false true false false) := by
  refine returnsInHanded_of_change (C := Try.checked) own_knob started (by kernel_rfl) Try.func5
    (ChangeSpec.witness6 (enc := enc) (C := Try.checked) false ⟨#[], #[.slice none 0 0], []⟩ 8 (by kernel_rfl) (by kernel_rfl) (by kernel_rfl) (by kernel_rfl)) ?_
  intro W base args ds gs before hval0 hW hcnd _
  have hval : ∀ (j : Nat) t v, Try.f5.params[j]? = some t → args[j]? = some v → Value.okWide Try.prog W .any base t v := hval0
  have hW' := hW
  obtain ⟨p, q, hA0, hV, rfl, hfz, hnd⟩ := hW
  have hA : DataW.TrodAll enc Try.prog W 0 (fun _ => true) true Try.f5.params.toList args.toList ds p := hA0
  have hAk := hA
  rw [Try.params5] at hA hval
  obtain ⟨v0, d0, rfl, rfl, h0⟩ := trodAll_one hA
  obtain ⟨rfl, rfl⟩ := trodVars_none hV
  obtain ⟨a0, b0, c0, rfl⟩ := okWide_slice Try.underlying36 (hval 0 36 v0 rfl rfl)
  obtain ⟨n0, hn0⟩ := h0
  obtain ⟨l, hl, _⟩ := lists_read hn0
  clear hA0 hval0
  simp only [List.append_nil] at hW'
  refine (counts_walk W _ l hl).mono fun e W' ⟨he, hf⟩ => ?_
  subst he
  have hb := hf.below
  exact ⟨_, rfl, post_below (pa := _) (pv := []) hW' (fun _ _ _ => trodAll_mk1 (shut_bool Try.underlying4 _)) (fun sp hsp => args_again (by rw [Try.params5]; decide) hAk hb sp (by simpa using hsp)) (fun _ _ => rfl) (by simp) hb (ok_one (by kernel_rfl) rfl (okWide_bool_mk Try.underlying4 _))⟩
theorem satCounts_row : Rows.SatCountsSaid :=
  OpenClaim.holds_of_wide 5 Try.f5 rfl rfl rfl rfl rfl rfl rfl ⟨rfl, rfl, rfl, rfl, rfl⟩ rfl rfl rfl rfl rfl (by kernel_rfl) Try.func5 (by kernel_rfl)
    (of_decide_eq_true (by kernel_rfl)) (by unfold Func.isWrapper; first | (rw [if_pos (by decide +kernel)]; kernel_rfl) | (rw [if_neg (by decide +kernel)]; exact ⟨rfl, rfl⟩))
    (fun os started H enc _ => satCounts_lifted os started H enc)
end SaW
theorem satCounts_holds : Rows.SatCountsSaid := SaW.satCounts_row
#print axioms satCounts_holds
end Go.Proofs.Ytfpjfogddepbkaa
