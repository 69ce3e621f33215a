/- slices.DeleteFunc at whole numbers, with a closure that draws, walked. -/
import Derived.Test.YtfpjfogddepbkaaCz10
import Derived.Lib.SliceRun
import Derived.WalkMore
import Derived.Laws.ResultCell
set_option linter.unusedSimpArgs false
set_option linter.unusedVariables false
namespace Go.Proofs.Ytfpjfogddepbkaa
open Go.RowKit Go.Mem Go.Sat
namespace SaW
/-- A closure tells q of each of these numbers, whenever asked behind w, where only these blocks were written. -/
def TellsS (S : Nat → Prop) (w : World) (fid : FuncId) (cap : Array Value) (q : Int → Bool) (xs : List Int) : Prop := ∀ x ∈ xs, ∀ w', Frm S w w' → Calls Try.prog fid (#[.int .i64 x] ++ cap) w' fun e w'' => e = .returned (.bool (q x)) ∧ Frm (fun _ => False) w' w''
theorem row_cells {g n c : Nat} : ∀ (vs : List Int) (i : Nat) (w : World) (L : List Int), Row w 3 iI (.slice (some ⟨g, 0, none⟩) n c) L → i + vs.length ≤ L.length → ∃ L', Row (w.setCells g i (vs.map iI)) 3 iI (.slice (some ⟨g, 0, none⟩) n c) L' ∧ L'.length = L.length ∧ L'.take i = L.take i ∧ Frm (fun b => b = g) w (w.setCells g i (vs.map iI))
  | [], i, w, L, h, _ => ⟨L, h, rfl, rfl, Frm.refl _ _⟩
  | v :: vs, i, w, L, h, hl => by
    simp only [List.length_cons] at hl
    have h1 := row_set h i (by omega) v
    obtain ⟨L', h2, h3, h4, h5⟩ := row_cells vs (i + 1) _ _ h1 (by simp; omega)
    refine ⟨L', h2, by rw [h3]; simp, ?_, ?_⟩
    · have := congrArg (List.take i) h4
      rw [List.take_take, List.take_take, Nat.min_eq_left (by omega)] at this
      rw [this, List.take_set_of_le (Nat.le_refl _)]
    · exact ((Frm.refl (fun b => b = g) w).set (p := ⟨g, i, none⟩) (.inl rfl) _).trans h5 fun _ _ h => h
theorem zeroI (w : World) : (zeroValue 3).run Try.prog w = .ok (.int .i64 0) w := by
  have e : (Try.prog.info? 3).map (fun i => i.zero) = some (some (.int .i64 0)) := by kernel_rfl
  obtain ⟨i, h1, h2⟩ := Option.map_eq_some_iff.1 e
  simp [zeroValue, typeInfo, h1, h2]
/-- What the loop holds. -/
structure Del (q : Int → Bool) (xs : List Int) (w w' : World) (g n c i j : Nat) (L : List Int) : Prop where
  row : Row w' 3 iI (.slice (some ⟨g, 0, none⟩) n c) L
  len : L.length = xs.length
  kept : L.take i = (xs.take j).filter fun x => !q x
  rest : L.drop j = xs.drop j
  lt : i < j
  le : j ≤ xs.length
  frm : Frm (fun b => b = g) w w'
theorem Del.get {q : Int → Bool} {xs : List Int} {w w' : World} {g n c i j : Nat} {L : List Int} (h : Del q xs w w' g n c i j L) (hj : j < xs.length) : L[j]? = xs[j]? := by
  have := congrArg (fun l => l[0]?) h.rest
  simpa [List.getElem?_drop] using this
theorem Del.skip {q : Int → Bool} {xs : List Int} {w w' w'' : World} {g n c i j : Nat} {L : List Int} (h : Del q xs w w' g n c i j L) {x : Int} (hx : xs[j]? = some x) (hq : q x = true) (hf : Frm (fun _ => False) w' w'') : Del q xs w w'' g n c i (j + 1) L := by
  have hj := (List.getElem?_eq_some_iff.1 hx).1
  refine ⟨h.row.frm0 hf, h.len, ?_, ?_, by have := h.lt; omega, hj, h.frm.trans (hf.mono fun _ _ h => h.elim) fun _ _ h => h⟩
  · rw [List.take_add_one, hx, List.filter_append, h.kept]
    simp [hq]
  · have := congrArg (List.drop 1) h.rest
    simpa [List.drop_drop] using this
theorem Del.keep {q : Int → Bool} {xs : List Int} {w w' w'' : World} {g n c i j : Nat} {L : List Int} (h : Del q xs w w' g n c i j L) {x : Int} (hx : xs[j]? = some x) (hq : q x = false) (hf : Frm (fun _ => False) w' w'') : Del q xs w (w''.setCell ⟨g, i, none⟩ (.int .i64 x)) g n c (i + 1) (j + 1) (L.set i x) := by
  have hj := (List.getElem?_eq_some_iff.1 hx).1
  have hl := h.lt
  have hlen := h.len
  refine ⟨row_set (h.row.frm0 hf) i (by omega) x, by simp [h.len], ?_, ?_, by omega, hj, (h.frm.trans (hf.mono fun _ _ h => h.elim) fun _ _ h => h).set (p := ⟨g, i, none⟩) (.inl rfl) _⟩
  · rw [List.take_add_one, List.take_set_of_le (Nat.le_refl _), h.kept, List.take_add_one, hx, List.filter_append]
    simp [hq, List.getElem?_set_self (show i < L.length by omega)]
  · rw [List.drop_set_of_lt (by omega)]
    have := congrArg (List.drop 1) h.rest
    simpa [List.drop_drop] using this
theorem TellsS.tells {S : Nat → Prop} {w : World} {fid : FuncId} {cap : Array Value} {q : Int → Bool} {xs : List Int} (h : TellsS S w fid cap q xs) : Tells w fid cap q xs := fun x hx w' hf => h x hx w' (hf.mono fun _ _ h => h.elim)
theorem idx_cases (q : Int → Bool) (xs : List Int) : (Sl.idx q xs = -1 ∧ ∀ x ∈ xs, q x = false) ∨ ∃ (i : Nat) (x : Int), Sl.idx q xs = i ∧ xs[i]? = some x ∧ q x = true ∧ (xs.take i).filter (fun x => !q x) = xs.take i := by
  unfold Sl.idx
  cases h : xs.findIdx? q with
  | none => exact .inl ⟨rfl, fun x hx => by simpa using List.findIdx?_eq_none_iff.1 h x hx⟩
  | some i =>
    obtain ⟨hi, hq, hb⟩ := List.findIdx?_eq_some_iff_getElem.1 h
    refine .inr ⟨i, xs[i], rfl, List.getElem?_eq_getElem hi, hq, ?_⟩
    rw [List.filter_eq_self]
    intro x hx
    obtain ⟨j, hj, rfl⟩ := List.mem_iff_getElem.1 hx
    simp only [List.length_take] at hj
    have := hb j (by omega)
    simp only [List.getElem_take]
    simpa using this
set_option maxRecDepth 100000 in
set_option maxHeartbeats 2000000 in
theorem delF_calls (fid : FuncId) (cap : Array Value) (q : Int → Bool) (v : Value) (xs : List Int) (w : World) (hrow : Row w 3 iI v xs)
    (hcf : ∀ (x : Int) (w : World), (callFunc fid (#[.int .i64 x] ++ cap)).run Try.prog w = .ok (.enter fid (#[.int .i64 x] ++ cap)) w)
    (hq : TellsS (fun b => v.ownBlock = some b) w fid cap q xs) :
    Calls Try.prog 28 #[v, .func (.func fid) #[] cap] w fun e w' => ∃ v', e = .returned v' ∧ Row w' 3 iI v' (xs.filter fun x => !q x) ∧ Frm (fun b => v.ownBlock = some b) w w' ∧ v'.ownBlock = v.ownBlock := by
  have HI := Lib.hid (idxF_calls fid cap q v xs w hrow.sees hcf hq.tells)
  have Hq := Lib.hid hq
  have HR := Lib.hid hrow
  rcases idx_cases q xs with ⟨h1, h2⟩ | ⟨i, x0, h1, h2, h3, h4⟩
  · rw [h1] at HI
    have hfl : xs.filter (fun x => !q x) = xs := List.filter_eq_self.2 fun x hx => by simp [h2 x hx]
    have HFL := Lib.hid hfl
    clear hrow hq h1 h2 hfl
    go_enter Try.func28, Try.ntmps28
    go_wp2_with fail
    refine HI.out.mono ?_
    rintro e w1 ⟨rfl, hf⟩
    have HF := Lib.hid hf
    clear hf
    dsimp only
    go_wp2
    go_ret
    exact ⟨v, rfl, by rw [HFL.out]; exact HR.out.frm0 HF.out, HF.out.mono fun _ _ h => h.elim, rfl⟩
  · have hil := (List.getElem?_eq_some_iff.1 h2).1
    rcases hrow.shape with ⟨_, e⟩ | ⟨g, c, rfl, ho, hcap, hmax, _⟩
    · rw [e] at hil; simp at hil
    have hx63 : xs.length ≤ 9223372036854775807 := by have : maxLen = 9223372036854775807 := rfl; omega
    rw [h1] at HI
    have HD0 : Hid (∀ w1, Frm (fun _ => False) w w1 → Del q xs w w1 g xs.length c i (i + 1) xs) := Lib.hid fun w1 hf => ⟨hrow.frm0 hf, rfl, by rw [List.take_add_one, h2, List.filter_append, h4]; simp [h3], rfl, by omega, hil, hf.mono fun _ _ h => h.elim⟩
    have hzz := zeroI
    have HCAP := Lib.hid hcap
    clear hrow hq h1 h2 h3 h4
    have hei : ((i : Int) == -1) = false := by simp
    have hwi : wrap64 ((i : Int) + 1) = (i : Int) + 1 := by unfold wrap64; omega
    go_enter Try.func28, Try.ntmps28
    go_wp2_with fail
    refine HI.out.mono ?_
    rintro e w1 ⟨rfl, hf⟩
    have HD1 := Lib.hid (HD0.out w1 hf)
    clear hf HD0 HI
    dsimp only
    go_wp2_with fail
    clear hei hwi
    go_loopw [5, 6] (fun v5 v6 w' => ∃ i j : Nat, v5 = .int .i64 i ∧ v6 = .int .i64 j ∧ ∃ L, Hid (Del q xs w w' g xs.length c i j L)) (fun _ v6 _ => xs.length - (intOf v6).toNat)
    case atStart => exact ⟨i, i + 1, rfl, rfl, xs, HD1⟩
    case round =>
      obtain ⟨i, j, rfl, rfl, L, HD⟩ := hrel
      clear HD1
      have hij := HD.out.lt
      have hjl := HD.out.le
      have hLl := HD.out.len
      by_cases hjn : j < xs.length
      · have hjI : (j : Int) < (xs.length : Int) := by omega
        have hiI : (i : Int) < (xs.length : Int) := by omega
        obtain ⟨x, hx⟩ : ∃ x, xs[j]? = some x := ⟨_, List.getElem?_eq_getElem hjn⟩
        have xj := row_get HD.out.row ((HD.out.get hjn).trans hx)
        have HC := Lib.hid (Hq.out x (List.mem_of_getElem? hx) wr (HD.out.frm.mono fun b _ e => by rw [e]; rfl))
        have HX := Lib.hid hx
        clear hx hLl hij hjl
        go_wp2_with fail
        refine HC.out.mono ?_
        rintro e w2 ⟨rfl, hf⟩
        have HF := Lib.hid hf
        clear hf HC xj
        dsimp only
        cases hqx : q x with
        | true =>
          have HD2 := Lib.hid (HD.out.skip HX.out hqx HF.out)
          clear hqx HD
          go_wp2
          go_roundw
          case rel => exact ⟨i, j + 1, rfl, rfl, L, HD2⟩
          case measure => simp only [intOf]; omega
        | false =>
          have HD2 := Lib.hid (HD.out.keep HX.out hqx HF.out)
          have hlt := HD.out.lt
          have hlen := HD.out.len
          obtain ⟨u, hu⟩ : ∃ u, L[i]? = some u := ⟨_, List.getElem?_eq_getElem (by omega)⟩
          have xi := row_get (HD.out.row.frm0 HF.out) hu
          have xz : w2.frozen? ⟨g, i, none⟩ = false := by
            rcases (HD.out.row.frm0 HF.out).shape with ⟨_, e⟩ | ⟨g', c', e1, _, _, _, _, hz⟩
            · rw [e] at hlen; simp at hlen; omega
            · injection e1 with ea eb ec
              cases ea
              exact hz i
          clear hqx HD hu hlt hlen
          go_wp2
          go_roundw
          case rel => exact ⟨i + 1, j + 1, rfl, rfl, _, HD2⟩
          case measure => simp only [intOf]; omega
      · have hje : j = xs.length := by omega
        subst hje
        have hiI : (i : Int) ≤ (xs.length : Int) := by omega
        have hjI : ¬ (xs.length : Int) < (xs.length : Int) := by omega
        have hci : ¬ c = i := by have := HCAP.out; omega
        have hicI : (i : Int) ≤ (c : Int) := by have := HCAP.out; omega
        have hclr := fun ty => Lib.run_clear_slice (P := Try.prog) wr 26 3 ty (.int .i64 0) Try.underlying26 zeroI rfl rfl g i (xs.length - i) (c - i) (by omega) (fun k hk => by rw [row_get HD.out.row (List.getElem?_eq_getElem (show i + k < L.length by omega))]; rfl) (fun k hk => by
          rcases HD.out.row.shape with ⟨_, e⟩ | ⟨g', c', e1, _, _, _, _, hz⟩
          · rw [e] at hLl; simp at hLl; omega
          · injection e1 with ea eb ec
            cases ea
            exact hz (i + k))
        clear hjn hjl
        go_wp2
        go_ret
        obtain ⟨L', k1, k2, k3, k4⟩ := row_cells (List.replicate (xs.length - i) 0) i wr L HD.out.row (by simp; omega)
        rw [List.map_replicate] at k1 k4
        have k5 := Row.first k1 (k := i) (by omega)
        have hkp := HD.out.kept
        rw [k3, hkp, List.take_length] at k5
        exact ⟨_, rfl, k5, (HD.out.frm.trans k4 fun _ _ h => h).mono fun b _ e => by rw [e], rfl⟩
end SaW
end Go.Proofs.Ytfpjfogddepbkaa
/- One clause more, walked: Add. -/
namespace Go.Proofs.Ytfpjfogddepbkaa
open Go.RowKit Go.Mem Go.Sat
namespace SaW
theorem right_sml {n : Int} (h : rightF n = true) : Sml n := by unfold rightF at h; simp at h; exact ⟨h.2.1, h.2.2⟩
/-- A block that is none of the solver's and was there stays. -/
theorem SMov.cell {T : Role → Prop} {R R' : Nat → Option Role} {w w' : World} (h : SMov T R w R' w') {b i : Nat} {v : Value} (hb : R b = none) (hc : w.cell? ⟨b, i, none⟩ = some v) : w'.cell? ⟨b, i, none⟩ = some v := by
  have h1 := h.1.block b (World.block_lt_of_cell? _ _ hc) fun ⟨r, h1, _⟩ => by rw [hb] at h1; cases h1
  rw [← hc]; simp only [World.cell?, h1]
section
variable {w : World} {R : Nat → Option Role} {p : Nat} {s s' : St}
set_option maxRecDepth 100000 in
set_option maxHeartbeats 1000000 in
/-- A clause that may not be is refused, and nothing turns. -/
theorem add_bad (va : Value) (lits : List Int) (hA : Sees w iI va lits) (hc : checkF lits = false) : Calls Try.prog 9 #[.pointer (some ⟨p, 0, none⟩), va] w fun e w' => e = .returned (.int .i64 60) ∧ Frm (fun _ => False) w w' := by
  obtain ⟨VA, vc, rfl, _⟩ := sees_slice hA
  have hs2 : Sees ((w.alloc (.cells #[.pointer (some ⟨p, 0, none⟩)] 23)).alloc (.cells #[.slice VA lits.length vc] 26)) iI (.slice VA lits.length vc) lits := (hA.frm (frm_alloc _ _) fun _ _ _ => id).frm (frm_alloc _ _) fun _ _ _ => id
  have HC := Lib.hid (check_calls ((w.alloc (.cells #[.pointer (some ⟨p, 0, none⟩)] 23)).alloc (.cells #[.slice VA lits.length vc] 26)) (w.heap.size + 1) _ lits hs2 (blk_cell (blk_new_at _ (by simp)) 0))
  rw [hc] at HC
  clear hA hs2 hc
  go_enter Try.func9, Try.ntmps9
  go_wp2_with fail
  refine HC.out.mono ?_
  rintro e w1 ⟨rfl, rfl⟩
  dsimp only
  go_wp2
  go_ret
  exact ⟨rfl, (frm_alloc w _).alloc _⟩
set_option maxRecDepth 100000 in
set_option maxHeartbeats 4000000 in
theorem add_calls (h : SolverAt w R p s) (va : Value) (lits : List Int) (hA : Sees w iI va lits) (hO : OutOf R va) (hn : lits.length ≤ 1099511627776) (hc : checkF lits = true) (fuel : Nat) (hs : addF fuel s lits = some s') : Calls Try.prog 9 #[.pointer (some ⟨p, 0, none⟩), va] w (SPo AnyT R w p (.int .i64 0) s') := by
  obtain ⟨VA, vc, rfl, _⟩ := sees_slice hA
  have hs2 : Sees ((w.alloc (.cells #[.pointer (some ⟨p, 0, none⟩)] 23)).alloc (.cells #[.slice VA lits.length vc] 26)) iI (.slice VA lits.length vc) lits := (hA.frm (frm_alloc _ _) fun _ _ _ => id).frm (frm_alloc _ _) fun _ _ _ => id
  have HC := Lib.hid (check_calls ((w.alloc (.cells #[.pointer (some ⟨p, 0, none⟩)] 23)).alloc (.cells #[.slice VA lits.length vc] 26)) (w.heap.size + 1) _ lits hs2 (blk_cell (blk_new_at _ (by simp)) 0))
  rw [hc] at HC
  unfold addF at hs
  split at hs
  case isTrue => cases hs
  rename_i hgd
  have hgd' : 0 ≤ s.added ∧ s.added ≤ 1099511627776 := by simpa using hgd
  split at hs
  case h_1 => cases hs
  rename_i s1 hbk
  split at hs
  case h_1 => cases hs
  rename_i s2 hgr
  have hff : Frm (fun _ => False) w ((w.alloc (.cells #[.pointer (some ⟨p, 0, none⟩)] 23)).alloc (.cells #[.slice VA lits.length vc] 26)) := (frm_alloc w _).alloc _
  obtain ⟨ids, vv, hv, pv, lv, tv, mv, bm, kvs, H⟩ := h
  have H1 := H.frm0 hff
  obtain ⟨_, _, _, _, _, _, _, _, _, c9, _⟩ := H1.cells
  have hzp : ∀ i, ((w.alloc (.cells #[.pointer (some ⟨p, 0, none⟩)] 23)).alloc (.cells #[.slice VA lits.length vc] 26)).frozen? ⟨p, i, none⟩ = false := fun i => blk_free H1.box i
  obtain ⟨HT, HTM⟩ := H1.tell_added (s.added + 1)
  have hbx : R w.heap.size = none := none_of H (Nat.le_refl _)
  have hw1 : wrap64 (s.added + 1) = s.added + 1 := by unfold wrap64; omega
  have hpl := H.lt p _ H.rme
  have HBK := Lib.hid hbk
  have HGR := Lib.hid hgr
  have HSP := Lib.hid hs
  have HT1 := Lib.hid HT
  have HM0 : Hid (SMov AnyT R w R ((w.alloc (.cells #[.pointer (some ⟨p, 0, none⟩)] 23)).alloc (.cells #[.slice VA lits.length vc] 26))) := Lib.hid (SMov.of0 hff)
  have HM1 := Lib.hid (HTM.any)
  have hbs : w.heap.size < ((w.alloc (.cells #[.pointer (some ⟨p, 0, none⟩)] 23)).alloc (.cells #[.slice VA lits.length vc] 26)).heap.size := by simp; omega
  have HBS := Lib.hid hbs
  have HSEE := Lib.hid hs2
  have HOUT := Lib.hid hO
  have HBX := Lib.hid hbx
  have HN := Lib.hid hn
  have HSM : Hid (∀ x ∈ lits, Sml x) := Lib.hid fun x hx => right_sml (List.all_eq_true.1 hc x hx)
  have hbxc : ((w.alloc (.cells #[.pointer (some ⟨p, 0, none⟩)] 23)).alloc (.cells #[.slice VA lits.length vc] 26)).cell? ⟨w.heap.size, 0, none⟩ = some (.pointer (some ⟨p, 0, none⟩)) := blk_cell (blk_alloc (blk_new _) _) 0
  clear hA hs2 hc hs hbk hgr hff H H1 HT HTM hbx hgd hgd' hO hn hbs
  go_enter Try.func9, Try.ntmps9
  go_wp2_with fail
  refine HC.out.mono ?_
  rintro e w1 ⟨rfl, hw⟩
  clear HC
  dsimp only
  rw [hw] at c9 hzp HT1 HM1 HM0 HSEE HBS hbxc
  go_wp2_with fail
  rw [hw1]
  obtain ⟨w2, hw2⟩ : ∃ w2, w2 = w1.setCell ⟨p, 9, none⟩ (.int .i64 (s.added + 1)) := ⟨_, rfl⟩
  rw [← hw2] at HT1 HM1 ⊢
  have HBXC := Lib.hid hbxc
  have hbx2 := HM1.out.cell HBX.out HBXC.out
  clear hw2 hzp c9 hw1
  refine (back_calls (show SolverAt w2 R p _ from ⟨_, _, _, _, _, _, _, _, _, HT1.out⟩) 0 HBK.out).mono ?_
  rintro e w3 ⟨rfl, R3, HS3, HM3⟩
  have HS3' := Lib.hid HS3
  have HM4 := Lib.hid (HM1.out.trans HM3.any)
  clear HS3 HM3 hbx2
  dsimp only
  have hl63 : lits.length ≤ 9223372036854775807 := by have := HN.out; omega
  go_wp2_with fail
  go_loopw [27] (fun v27 w' => ∃ j : Nat, v27 = .int .i64 j ∧ j ≤ lits.length ∧ ∃ sj Rj, Hid (growsF sj (lits.drop j) = some s2) ∧ Hid (SolverAt w' Rj p sj) ∧ Hid (SMov AnyT R w1 Rj w')) (fun v27 _ => lits.length - (intOf v27).toNat)
  case atStart => exact ⟨0, rfl, by omega, s1, R3, HGR, HS3', HM4⟩
  case round =>
    obtain ⟨j, rfl, hj, sj, Rj, HG, HS, HM⟩ := hrel
    clear HS3' HM4 HGR hbxc
    have hbx := HM.out.cell HBX.out HBXC.out
    by_cases hjl : j < lits.length
    · have hjI : (j : Int) < (lits.length : Int) := by omega
      obtain ⟨n, hnn⟩ : ∃ n, lits[j]? = some n := ⟨_, List.getElem?_eq_getElem hjl⟩
      obtain ⟨g, o, rfl, xj⟩ : ∃ g o, VA = some ⟨g, o, none⟩ ∧ wr.cell? ⟨g, o + j, none⟩ = some (iI n) := by
        obtain ⟨A', c', e1, hc⟩ := sees_slice (HOUT.out.sees HSEE.out HM.out)
        injection e1 with ea eb ec
        obtain ⟨g, o, h1, h2⟩ := hc j n hnn
        exact ⟨g, o, ea.trans h1, h2⟩
      have e := HG.out
      rw [List.drop_eq_getElem_cons hjl, Option.some.inj ((List.getElem?_eq_getElem hjl).symm.trans hnn)] at e
      obtain ⟨s5, hg5, hr5⟩ := Option.bind_eq_some_iff.1 e
      have HG5 := Lib.hid hg5
      have HR5 := Lib.hid hr5
      clear e hg5 hr5 hnn HG
      go_wp2_with fail
      refine (grow_calls HS.out _ n HG5.out).mono ?_
      rintro e w5 ⟨rfl, R5, HS5, HM5⟩
      have HS6 := Lib.hid HS5
      have HM6 := Lib.hid (HM.out.trans HM5.any)
      clear HS5 HM5 HS HM xj hbx
      dsimp only
      go_wp2
      go_roundw
      case rel => exact ⟨j + 1, rfl, hjl, s5, R5, HR5, HS6, HM6⟩
      case measure => simp only [intOf]; omega
    · have hjI : ¬ (j : Int) < (lits.length : Int) := by omega
      have e := HG.out
      rw [List.drop_eq_nil_of_le (by omega)] at e
      cases e
      have HCL := Lib.hid (clean_calls wr _ lits (HOUT.out.sees HSEE.out HM.out) HN.out HSM.out)
      clear HG
      go_wp2_with fail
      refine HCL.out.mono ?_
      rintro e w5 ⟨vc5, rfl, hr5, hf5, ho5⟩
      have HS5 := Lib.hid (HS.out.frm0 hf5)
      have HM5 := Lib.hid (HM.out.trans (SMov.of0 hf5))
      have hbx := frm_cell hf5 hbx
      have HF5 := Lib.hid hf5
      have HR5 := Lib.hid hr5
      have HO5 : Hid (∀ g, vc5.ownBlock = some g → wr.heap.size ≤ g) := Lib.hid ho5
      clear hr5 hf5 ho5 HCL
      dsimp only
      cases hcl : cleanF lits with
      | none =>
        have hsp := HSP.out
        rw [hcl] at hsp
        cases hsp
        clear hcl
        simp only [Option.isSome_none]
        go_wp2
        go_ret
        exact ⟨rfl, _, HS5.out, HM0.out.trans HM5.out⟩
      | some c =>
        have hsp := HSP.out
        rw [hcl] at hsp HR5
        simp only [Option.getD_some] at HR5
        simp only at hsp
        split at hsp
        case isTrue => cases hsp
        rename_i hkn
        have hkn' : knownF s2 c = true := by simpa using hkn
        simp only [Option.isSome_some]
        have HANY := Lib.hid (anyF_calls 26 #[.pointer (some ⟨w.heap.size, 0, none⟩)] (litF s2 1) vc5 c w5 HR5.out.sees (fun x w => rfl) (tells1 HS5.out w.heap.size hbx c hkn'))
        have HKN := Lib.hid hkn'
        by_cases hany : c.any (litF s2 1) = true
        · rw [if_pos hany] at hsp
          cases hsp
          rw [hany] at HANY
          clear hany hkn hkn' hcl
          go_wp2_with fail
          refine HANY.out.mono ?_
          rintro e w6 ⟨rfl, hf6⟩
          have HF6 := Lib.hid hf6
          clear hf6
          dsimp only
          go_wp2
          go_ret
          exact ⟨rfl, _, HS5.out.frm0 HF6.out, HM0.out.trans (HM5.out.trans (SMov.of0 HF6.out))⟩
        · rw [if_neg hany] at hsp
          rw [Bool.not_eq_true] at hany
          rw [hany] at HANY
          have HSP2 := Lib.hid hsp
          clear hany hkn hkn' hcl hsp
          go_wp2_with fail
          refine HANY.out.mono ?_
          rintro e w6 ⟨rfl, hf6⟩
          have hbx := frm_cell hf6 hbx
          have HS6 := Lib.hid (HS5.out.frm0 hf6)
          have HM6 := Lib.hid (HM5.out.trans (SMov.of0 hf6))
          have HR6 := Lib.hid (HR5.out.frm0 hf6)
          have HOR : Hid (∀ g, vc5.ownBlock = some g → Rj g = none) := Lib.hid fun g hg => by
            obtain ⟨_, _, _, _, _, _, _, _, _, H⟩ := HS.out
            exact none_of H (HO5.out g hg)
          have HBG : Hid (∀ g, vc5.ownBlock = some g → w.heap.size ≠ g ∧ w1.heap.size ≤ g) := Lib.hid fun g hg => by
            have h1 := HO5.out g hg
            have h2 := HM.out.1.size
            have h3 := HBS.out
            exact ⟨by omega, by omega⟩
          have HBX6 := Lib.hid hbx
          have HDEL := Lib.hid (delF_calls 29 #[.pointer (some ⟨w.heap.size, 0, none⟩)] (litF s2 (-1)) vc5 c w6 HR6.out (fun x w => rfl) (fun x hxc w' hf => by
            have hs' : SolverAt w' Rj p s2 := HS6.out.frm hf fun b r hb e => by rw [HOR.out b e] at hb; cases hb
            have hb' : w'.cell? ⟨w.heap.size, 0, none⟩ = some (.pointer (some ⟨p, 0, none⟩)) := by
              have h1 := hf.block w.heap.size (World.block_lt_of_cell? _ _ HBX6.out) fun e => (HBG.out _ e).1 rfl
              rw [← HBX6.out]; simp only [World.cell?, h1]
            exact tells0 hs' w.heap.size hb' c HKN.out x hxc w' (Frm.refl _ _)))
          clear hf6 HANY HS5 HM5 HR5
          dsimp only
          go_wp2_with fail
          refine HDEL.out.mono ?_
          rintro e w7 ⟨v7, rfl, hr7, hf7, ho7⟩
          have HS7 : Hid (SolverAt w7 Rj p s2) := Lib.hid (HS6.out.frm hf7 fun b r hb e => by rw [HOR.out b e] at hb; cases hb)
          have hbx : w7.cell? ⟨w.heap.size, 0, none⟩ = some (.pointer (some ⟨p, 0, none⟩)) := by
            have h1 := hf7.block w.heap.size (World.block_lt_of_cell? _ _ HBX6.out) fun e => (HBG.out _ e).1 rfl
            rw [← HBX6.out]; simp only [World.cell?, h1]
          have HM7 : Hid (SMov AnyT R w1 Rj w7) := Lib.hid ⟨HM6.out.1.trans hf7 fun x hx e => (by have := (HBG.out x e).2; omega), HM6.out.2⟩
          have HOR7 : Hid (∀ g, v7.ownBlock = some g → Rj g = none ∧ w1.heap.size ≤ g) := Lib.hid fun g hg => by rw [ho7] at hg; exact ⟨HOR.out g hg, (HBG.out g hg).2⟩
          obtain ⟨o, hoo⟩ : ∃ o, o = c.filter fun x => !litF s2 (-1) x := ⟨_, rfl⟩
          rw [← hoo] at hr7
          have HR7 := Lib.hid hr7
          have hsp := HSP2.out
          rw [← hoo] at hsp
          have HSP3 := Lib.hid hsp
          obtain ⟨OA, oc, hv7, _⟩ := sees_slice hr7.sees
          subst hv7
          have ho63 : o.length ≤ 9223372036854775807 := hr7.sees.len
          clear hf7 ho7 hr7 hoo hsp HDEL HS6 HM6 HR6 HBX6 HSP2
          dsimp only
          match o, HSP3, HR7, HOR7, ho63 with
          | [], HSP3, HR7, HOR7, ho63 =>
            have hsp := HSP3.out
            cases hsp
            obtain ⟨ids8, vv8, hv8, pv8, lv8, tv8, mv8, bm8, kvs8, H8⟩ := HS7.out
            obtain ⟨_, _, _, _, _, _, _, _, _, _, _, c11⟩ := H8.cells
            have hzp : ∀ i, w7.frozen? ⟨p, i, none⟩ = false := fun i => blk_free H8.box i
            obtain ⟨HT8, HTM8⟩ := H8.tell_broken true
            have HT9 := Lib.hid HT8
            have HM9 := Lib.hid (HM7.out.trans HTM8.any)
            clear H8 HT8 HTM8
            go_wp2
            go_ret
            exact ⟨rfl, _, ⟨_, _, _, _, _, _, _, _, _, HT9.out⟩, HM0.out.trans HM9.out⟩
          | [n], HSP3, HR7, HOR7, ho63 =>
            have hsp := HSP3.out
            simp only at hsp
            split at hsp
            case h_1 => cases hsp
            rename_i s3 hst
            have HST := Lib.hid hst
            have HSP4 := Lib.hid hsp
            obtain ⟨go, co, hgo, _, _, x0, _⟩ := row_at HR7.out (k := 0) (by simp)
            injection hgo with ha hb hc
            subst ha
            simp only [List.getElem_cons_zero] at x0
            clear hst hsp hb hc
            go_wp2_with fail
            refine Plan.wp_region_plan [0, 0, 2, 6, 15] [.mk [0, 1, 2, 3] 4 []] [] (by kernel_rfl) (by kernel_rfl) ?_
            simp only [Plan.wayOf, Plan.pickAll, List.getElem?_cons_zero, List.getElem?_cons_succ, List.getD_eq_getElem?_getD, Option.getD_some]
            refine Plan.wpWay_seg ?_
            repeat go_big_quiet_step (fail)
            refine wpQuiet_nil ?_; refine Plan.wpWay_act ?_
            go_wp2_with fail
            refine (set_calls (HS7.out.frm0 (Frm.refl _ _).drew) n none none HST.out rfl).mono ?_
            rintro e w8 ⟨rfl, R8, HS8, HM8⟩
            have HS8' := Lib.hid HS8
            have hbx := ((SMov.of0 (T := SetT) (Frm.refl _ _).drew).trans HM8).cell (HM7.out.out HBS.out HBX.out) hbx
            have HM9 := Lib.hid ((HM7.out.trans (SMov.of0 (Frm.refl _ _).drew)).trans HM8.any)
            clear HS8 HM8 x0
            dsimp only
            go_wp2_with fail
            refine And.intro Plan.again_nil ?_
            refine Plan.wpWay_last ?_
            refine wpQuiet_nil ?_; refine NoPanic.normal ?_
            have hspl := HSP4.out
            by_cases hbr : s3.broken = true
            · rw [if_pos hbr] at hspl
              cases hspl
              obtain ⟨ids8, vv8, hv8, pv8, lv8, tv8, mv8, bm8, kvs8, H8⟩ := HS8'.out
              obtain ⟨_, _, _, _, _, _, _, _, _, _, _, c11⟩ := H8.cells
              have hzp : ∀ i, w8.frozen? ⟨p, i, none⟩ = false := fun i => blk_free H8.box i
              have HH8 := Lib.hid H8
              have HBR := Lib.hid hbr
              rw [hbr] at c11
              clear H8 hbr
              go_wp2_with fail
              refine Plan.wp_region_plan [0, 0, 2, 6, 14, 30, 62, 126, 254, 510, 1023, 2047, 4095] [.mk [0, 1, 2, 3, 4, 5, 6] 7 [0], .mk [8, 9, 10, 11] 12 []] [] (by kernel_rfl) (by kernel_rfl) ?_
              simp only [Plan.wayOf, Plan.pickAll, List.getElem?_cons_zero, List.getElem?_cons_succ, List.getD_eq_getElem?_getD, Option.getD_some]
              refine Plan.wpWay_seg ?_
              repeat go_big_quiet_step (fail)
              refine wpQuiet_nil ?_; refine Plan.wpWay_act ?_
              go_wp2_with (fail)
              refine And.intro ?_ ?_; focus ((iterate 1 (refine Plan.again_cons ?_ ?_; focus (go_big_quiet_step (fail); exact wpQuiet_nil rfl))); exact Plan.again_nil)
              refine Plan.wpWay_seg ?_
              repeat go_big_quiet_step (fail)
              refine wpQuiet_nil ?_; refine Plan.wpWay_act ?_
              go_wp2_with (fail)
              refine And.intro Plan.again_nil ?_
              refine Plan.wpWay_last ?_
              refine wpQuiet_nil ?_; refine NoPanic.normal ?_
              obtain ⟨HT9, HTM9⟩ := HH8.out.tell_broken true
              have HT10 := Lib.hid (HT9.frm0 (Frm.refl _ _).drew)
              have HM11 := Lib.hid (HM0.out.trans (HM9.out.trans (HTM9.any.trans (SMov.of0 (Frm.refl _ _).drew))))
              have hst : ({ s' with broken := true } : St) = s' := by have h1 := HBR.out; cases s'; simp at h1 ⊢; exact h1
              rw [hst] at HT10
              clear HT9 HTM9 HM9 HH8 hst
              go_wp2
              go_ret
              exact ⟨rfl, _, ⟨_, _, _, _, _, _, _, _, _, HT10.out⟩, HM11.out⟩
            · rw [if_neg hbr] at hspl
              obtain ⟨r, hsr, hrr⟩ := Option.map_eq_some_iff.1 hspl
              obtain ⟨res, s4⟩ := r
              have HSR := Lib.hid hsr
              have HRR := Lib.hid hrr
              obtain ⟨ids8, vv8, hv8, pv8, lv8, tv8, mv8, bm8, kvs8, H8⟩ := HS8'.out
              obtain ⟨_, _, _, _, _, _, _, _, _, _, _, c11⟩ := H8.cells
              rw [Bool.not_eq_true] at hbr
              rw [hbr] at c11
              clear H8 hspl hsr hrr hbr
              have HM9x := HM9
              clear HM9
              cases res with
              | none =>
                go_wp2_with fail
                refine Plan.wp_region_plan [0, 0, 2, 6, 14, 30, 62, 126, 254, 510, 1023, 2047, 4095] [.mk [0, 1, 2, 3, 4, 5, 6] 7 [0], .mk [8, 9, 10, 11] 12 []] [] (by kernel_rfl) (by kernel_rfl) ?_
                simp only [Plan.wayOf, Plan.pickAll, List.getElem?_cons_zero, List.getElem?_cons_succ, List.getD_eq_getElem?_getD, Option.getD_some]
                refine Plan.wpWay_seg ?_
                repeat go_big_quiet_step (fail)
                refine wpQuiet_nil ?_; refine Plan.wpWay_act ?_
                go_wp2_with fail
                refine (spread_calls (HS8'.out.frm0 (Frm.refl _ _).drew) fuel none HSR.out).mono ?_
                rintro e w9 ⟨AR, R9, rfl, hcl9, HS9, HM9⟩
                obtain rfl : AR = none := hcl9
                have hbx := ((SMov.of0 (T := AnyT) (Frm.refl _ _).drew).trans HM9).cell (HM9x.out.out HBS.out HBX.out) hbx
                have HM10 := Lib.hid ((HM9x.out.trans (SMov.of0 (Frm.refl _ _).drew)).trans HM9)
                obtain ⟨ids9, vv9, hv9, pv9, lv9, tv9, mv9, bm9, kvs9, H9⟩ := HS9
                obtain ⟨_, _, _, _, _, _, _, _, _, _, _, c11'⟩ := H9.cells
                have hzp : ∀ i, w9.frozen? ⟨p, i, none⟩ = false := fun i => blk_free H9.box i
                have HH9 := Lib.hid H9
                clear HM9 H9 c11
                dsimp only
                go_wp2_with fail
                refine And.intro ?_ ?_; focus ((iterate 1 (refine Plan.again_cons ?_ ?_; focus (go_big_quiet_step (fail); exact wpQuiet_nil rfl))); exact Plan.again_nil)
                refine Plan.wpWay_seg ?_
                repeat go_big_quiet_step (fail)
                refine wpQuiet_nil ?_; refine Plan.wpWay_act ?_
                go_wp2_with (fail)
                refine And.intro Plan.again_nil ?_
                refine Plan.wpWay_last ?_
                refine wpQuiet_nil ?_; refine NoPanic.normal ?_
                obtain ⟨HT9, HTM9⟩ := HH9.out.tell_broken false
                have HT10 := Lib.hid HT9
                have HM11 := Lib.hid (HM0.out.trans (HM10.out.trans HTM9.any))
                have hrr := HRR.out
                clear HT9 HTM9 HM10 HH9
                go_wp2
                go_ret
                exact ⟨rfl, _, by rw [← hrr]; exact ⟨_, _, _, _, _, _, _, _, _, HT10.out⟩, HM11.out⟩
              | some cc =>
                go_wp2_with fail
                refine Plan.wp_region_plan [0, 0, 2, 6, 14, 30, 62, 126, 254, 510, 1023, 2047, 4095] [.mk [0, 1, 2, 3, 4, 5, 6] 7 [0], .mk [8, 9, 10, 11] 12 []] [] (by kernel_rfl) (by kernel_rfl) ?_
                simp only [Plan.wayOf, Plan.pickAll, List.getElem?_cons_zero, List.getElem?_cons_succ, List.getD_eq_getElem?_getD, Option.getD_some]
                refine Plan.wpWay_seg ?_
                repeat go_big_quiet_step (fail)
                refine wpQuiet_nil ?_; refine Plan.wpWay_act ?_
                go_wp2_with fail
                refine (spread_calls (HS8'.out.frm0 (Frm.refl _ _).drew) fuel (some cc) HSR.out).mono ?_
                rintro e w9 ⟨AR, R9, rfl, hcl9, HS9, HM9⟩
                obtain ⟨bb, rfl, _⟩ := hcl9
                have hbx := ((SMov.of0 (T := AnyT) (Frm.refl _ _).drew).trans HM9).cell (HM9x.out.out HBS.out HBX.out) hbx
                have HM10 := Lib.hid ((HM9x.out.trans (SMov.of0 (Frm.refl _ _).drew)).trans HM9)
                obtain ⟨ids9, vv9, hv9, pv9, lv9, tv9, mv9, bm9, kvs9, H9⟩ := HS9
                obtain ⟨_, _, _, _, _, _, _, _, _, _, _, c11'⟩ := H9.cells
                have hzp : ∀ i, w9.frozen? ⟨p, i, none⟩ = false := fun i => blk_free H9.box i
                have HH9 := Lib.hid H9
                clear HM9 H9 c11
                dsimp only
                go_wp2_with fail
                refine And.intro ?_ ?_; focus ((iterate 1 (refine Plan.again_cons ?_ ?_; focus (go_big_quiet_step (fail); exact wpQuiet_nil rfl))); exact Plan.again_nil)
                refine Plan.wpWay_seg ?_
                repeat go_big_quiet_step (fail)
                refine wpQuiet_nil ?_; refine Plan.wpWay_act ?_
                go_wp2_with (fail)
                refine And.intro Plan.again_nil ?_
                refine Plan.wpWay_last ?_
                refine wpQuiet_nil ?_; refine NoPanic.normal ?_
                obtain ⟨HT9, HTM9⟩ := HH9.out.tell_broken true
                have HT10 := Lib.hid HT9
                have HM11 := Lib.hid (HM0.out.trans (HM10.out.trans HTM9.any))
                have hrr := HRR.out
                clear HT9 HTM9 HM10 HH9
                go_wp2
                go_ret
                exact ⟨rfl, _, by rw [← hrr]; exact ⟨_, _, _, _, _, _, _, _, _, HT10.out⟩, HM11.out⟩
          | n :: n2 :: r, HSP3, HR7, HOR7, ho63 =>
            have HWT := Lib.hid (show watchF { s2 with cls := s2.cls ++ [⟨n :: n2 :: r, false, 0⟩] } s2.cls.length = some s' from HSP3.out)
            obtain ⟨o2, ho2⟩ : ∃ o2, o2 = n :: n2 :: r := ⟨_, rfl⟩
            have h2 : 2 ≤ o2.length := by rw [ho2]; simp
            rw [← ho2] at HWT HR7 HOR7 ho63 ⊢
            have eq0 : ((o2.length : Int) == 0) = false := by rw [beq_eq_false_iff_ne]; omega
            have eq1 : ((o2.length : Int) == 1) = false := by rw [beq_eq_false_iff_ne]; omega
            obtain ⟨ids8, vv8, hv8, pv8, lv8, tv8, mv8, bm8, kvs8, H8⟩ := HS7.out
            have hB : w1.heap.size ≤ w7.heap.size := HM7.out.1.size
            have hN := H8.new_cl (x := ⟨o2, false, 0⟩) HR7.out (fun g hg => (HOR7.out g hg).1)
            have hNM := newCl_mov (T := AnyT) (B := w1.heap.size) (c := s2.cls.length) (o := .cells #[.slice OA o2.length oc, .bool false, .int .i64 0] 62) H8 hB HOR7.out
            have HN7 := Lib.hid hN
            have HM8 := Lib.hid ((HM7.out.toB (Nat.le_refl _)).trans hNM)
            have hB8 : Hid (w1.heap.size ≤ (w7.alloc (.cells #[.slice OA o2.length oc, .bool false, .int .i64 0] 62)).heap.size) := Lib.hid (by simp; omega)
            have hrc : Hid (newCl Rj w7.heap.size s2.cls.length (.slice OA o2.length oc) w7.heap.size = some (.cl s2.cls.length)) := Lib.hid (if_pos rfl)
            have hbl := World.block_lt_of_cell? _ _ hbx
            clear H8 hB hN hNM ho2 h2
            go_wp2_with fail
            refine (watch_calls (show SolverAt _ _ p _ from ⟨_, _, _, _, _, _, _, _, _, HN7.out⟩) s2.cls.length w7.heap.size hrc.out HWT.out).mono ?_
            rintro e w9 ⟨rfl, R9, HS9, HM9⟩
            have HS10 := Lib.hid HS9
            have HM10 := Lib.hid (HM8.out.trans (HM9.any.toB hB8.out)).back
            clear HS9 HM9
            dsimp only
            go_wp2
            go_ret
            exact ⟨rfl, _, HS10.out, HM0.out.trans HM10.out⟩
end
end SaW
end Go.Proofs.Ytfpjfogddepbkaa
/- Whether all can hold, walked: Solve. -/
namespace Go.Proofs.Ytfpjfogddepbkaa
open Go.RowKit Go.Mem Go.Sat
namespace SaW
theorem info_ans : (Try.prog.info? 30).map (·.size) = some 3 := by kernel_rfl
/-- The result of a call that answers through a variable of its own. -/
theorem results_ans {fn : Func} {a u : Tmp} (h : fn.results = #[.cell a 30, .tmp u]) (tmps : Array Value) (w : World) (g : Nat) (x y z : Value) (t : TypeId) (fr : Nat × Nat)
    (hp : tmps.getD a undef = .pointer (some ⟨g, 0, none⟩)) (hg : w.heap[g]? = some (.cells #[x, y, z] t fr)) :
    (results fn tmps).run Try.prog w = .ok (.tuple #[.agg #[x, y, z], tmps.getD u undef]) w := by
  rw [results_cell_tmp h, hp]
  have e := run_loadVar_row (P := Try.prog) w g t 30 #[x, y, z] fr _ hg Try.underlying30 rfl info_ans
  simp only [asAddr, Sem.run_pure, Result.andThen_ok, e]
section
variable {w : World} {R : Nat → Option Role} {p : Nat} {s s' : St}
set_option maxRecDepth 100000 in
set_option maxHeartbeats 1000000 in
/-- Literals that may not be are refused, and nothing turns. -/
theorem solve_bad (va : Value) (assume : List Int) (limit : Int) (hA : Sees w iI va assume) (hc : checkF assume = false) : Calls Try.prog 10 #[.pointer (some ⟨p, 0, none⟩), .int .i64 limit, va] w fun e w' => e = .returned (.tuple #[.agg #[.bool false, .slice none 0 0, .slice none 0 0], .int .i64 60]) ∧ Frm (fun _ => False) w w' := by
  obtain ⟨VA, vc, rfl, _⟩ := sees_slice hA
  have hs2 : Sees ((w.alloc (.cells #[.bool false, .slice none 0 0, .slice none 0 0] 30)).alloc (.cells #[.slice VA assume.length vc] 26)) iI (.slice VA assume.length vc) assume := (hA.frm (frm_alloc _ _) fun _ _ _ => id).frm (frm_alloc _ _) fun _ _ _ => id
  have HC := Lib.hid (check_calls ((w.alloc (.cells #[.bool false, .slice none 0 0, .slice none 0 0] 30)).alloc (.cells #[.slice VA assume.length vc] 26)) (w.heap.size + 1) _ assume hs2 (blk_cell (blk_new_at _ (by simp)) 0))
  rw [hc] at HC
  clear hA hs2 hc
  go_enter Try.func10, Try.ntmps10
  go_wp2_with fail
  go_step3
  go_wp2_with fail
  refine HC.out.mono ?_
  rintro e w1 ⟨rfl, rfl⟩
  dsimp only
  go_wp2
  try rw [Exit.noGoto_ret]
  refine bodyPost_ret (results_ans rfl _ _ w.heap.size _ _ _ _ _ rfl (blk_alloc (blk_new _) _)) rfl ?_
  exact ⟨rfl, (frm_alloc w _).alloc _⟩
/-- What the search does behind a spreading. -/
def searchB (fuel : Nat) (limit : Int) (assume : List Int) (k : Nat) (res : Option Nat) (s1 : St) (count : Int) : Option ((Ans × Int) × St) :=
  match res with
  | some c =>
    if (decide (0 ≤ s1.conflicts ∧ s1.conflicts ≤ 1099511627776 ∧ 0 ≤ count ∧ count ≤ 1099511627776)) = false then none else
    let s2 := { s1 with conflicts := s1.conflicts + 1 }
    if levelF s2 = 0 then some ((noAns, 0), { s2 with broken := true }) else
    match conflictF s2 c with
    | none => none
    | some s3 =>
      if 0 < limit ∧ limit ≤ count + 1 then (backF s3 0).map fun s4 => ((noAns, 70), s4) else
      (if (count + 1) % 64 = 0 then backF s3 0 else some s3).bind fun s4 => if s4.broken then none else searchF fuel limit assume k s4 (count + 1)
  | none =>
    if (decide (0 ≤ s1.added ∧ s1.added ≤ 1099511627776)) = false then none else
    if 2000 + s1.added / 2 < (s1.learnt.length : Int) then none else
    match decideL (assume.length + 2) s1 assume with
    | none => none
    | some ((n, false), s2) => (coreF s2 n assume).map fun l => ((⟨false, [], l⟩, 0), s2)
    | some ((n, true), s2) =>
      if n = 0 then (if roomB s2.vars.length then some ((⟨true, modelF s2, []⟩, 0), s2) else none) else
      if roomB s2.limits.length = false then none else
      (setF { s2 with limits := s2.limits ++ [(s2.trail.length : Int)] } n none).bind fun s3 => searchF fuel limit assume k s3 count
theorem searchF_succ (fuel : Nat) (limit : Int) (assume : List Int) (k : Nat) (s : St) (count : Int) : searchF fuel limit assume (k + 1) s count = if s.broken then some ((noAns, 0), s) else (spreadF fuel s).bind fun r => searchB fuel limit assume k r.1 r.2 count := by
  rw [searchF]
  split
  · rfl
  · cases spreadF fuel s with
    | none => rfl
    | some r =>
      obtain ⟨res, s1⟩ := r
      cases res <;> rfl
/-- What Solve hands back. -/
def SolvePost (R : Nat → Option Role) (w : World) (p : Nat) (a : Ans) (err : Int) (s' : St) (e : Ending) (w' : World) : Prop :=
  ∃ vm vc R', e = .returned (.tuple #[.agg #[.bool a.sat, vm, vc], .int .i64 err]) ∧ Row w' 3 iI vm a.model ∧ Row w' 3 iI vc a.core ∧ (∀ g, vm.ownBlock = some g ∨ vc.ownBlock = some g → R' g = none ∧ w.heap.size ≤ g) ∧ SolverAt w' R' p s' ∧ SMov AnyT R w R' w'
end
end SaW
end Go.Proofs.Ytfpjfogddepbkaa
