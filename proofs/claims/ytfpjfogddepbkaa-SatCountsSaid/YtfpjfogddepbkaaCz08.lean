/- A new clause in memory; what a call may have done from some block on; choose, model, walked. -/
import Derived.Test.YtfpjfogddepbkaaCz07
set_option linter.unusedSimpArgs false
set_option linter.unusedVariables false
namespace Go.Proofs.Ytfpjfogddepbkaa
open Go.RowKit Go.Mem Go.Sat
namespace SaW
/-- What a call may have done, but for blocks from B on. -/
def SMovB (T : Role → Prop) (B : Nat) (R : Nat → Option Role) (w : World) (R' : Nat → Option Role) (w' : World) : Prop :=
  Frm (fun b => (∃ r, R b = some r ∧ T r) ∨ B ≤ b) w w' ∧ (∀ b r, R b = some r → R' b = some r) ∧ ∀ b, R' b ≠ none → R b ≠ none ∨ B ≤ b
section
variable {T T' : Role → Prop} {B : Nat}
theorem SMov.toB {R R' : Nat → Option Role} {w w' : World} (h : SMov T R w R' w') (hB : B ≤ w.heap.size) : SMovB T B R w R' w' := ⟨h.1.mono fun _ _ h => .inl h, h.2.1, fun b hb => (h.2.2 b hb).imp id fun h => Nat.le_trans hB h⟩
theorem SMovB.trans {R R1 R2 : Nat → Option Role} {w w1 w2 : World} (h : SMovB T B R w R1 w1) (k : SMovB T B R1 w1 R2 w2) : SMovB T B R w R2 w2 :=
  ⟨h.1.trans k.1 fun x hx e => by
    rcases e with ⟨r, hr, ht⟩ | e
    · rcases h.2.2 x (by rw [hr]; exact fun e => by cases e) with h1 | h1
      · cases hq : R x with
        | none => exact absurd hq h1
        | some q =>
          have := h.2.1 x q hq
          rw [hr] at this
          cases this
          exact .inl ⟨r, rfl, ht⟩
      · exact .inr h1
    · exact .inr e, fun b r hb => k.2.1 b r (h.2.1 b r hb), fun b hb => (k.2.2 b hb).elim (fun h1 => h.2.2 b h1) .inr⟩
theorem SMovB.mono {R R' : Nat → Option Role} {w w' : World} (h : SMovB T B R w R' w') (hT : ∀ r, T r → T' r) : SMovB T' B R w R' w' := ⟨h.1.mono fun _ _ h => h.imp (fun ⟨r, hr, ht⟩ => ⟨r, hr, hT r ht⟩) id, h.2.1, h.2.2⟩
theorem SMovB.any {R R' : Nat → Option Role} {w w' : World} (h : SMovB T B R w R' w') : SMovB AnyT B R w R' w' := h.mono fun _ _ => trivial
theorem SMovB.back {R R' : Nat → Option Role} {w w' : World} (h : SMovB T w.heap.size R w R' w') : SMov T R w R' w' := ⟨h.1.mono fun x hx e => e.elim id fun e => by omega, h.2.1, h.2.2⟩
/-- A block below B that is none of the solver's stays, and is none of its. -/
theorem SMovB.out {R R' : Nat → Option Role} {w w' : World} (h : SMovB T B R w R' w') {b : Nat} (hb : b < B) (hr : R b = none) : R' b = none := by
  cases hq : R' b with
  | none => rfl
  | some r => rcases h.2.2 b (by rw [hq]; exact fun e => by cases e) with h1 | h1; exact absurd hr h1; omega
end
section
variable {w w' : World} {R : Nat → Option Role} {p : Nat} {s : St} {ids : List Nat} {vv hv pv lv tv mv : Value} {bm : Nat} {kvs : List (Int × Value)}
theorem encC_snoc (ids : List Nat) (g : Nat) {c : Nat} (h : c < ids.length) : encC (ids ++ [g]) c = encC ids c := by
  unfold encC
  rw [List.getD_eq_getElem?_getD, List.getD_eq_getElem?_getD, List.getElem?_append_left h]
theorem encR_snoc (ids : List Nat) (g : Nat) {r : Option Nat} (h : ∀ c, r = some c → c < ids.length) : encR (ids ++ [g]) r = encR ids r := by
  cases r with
  | none => rfl
  | some c => exact encC_snoc ids g (h c rfl)
theorem row_congr {α : Type} {w : World} {e : TypeId} {enc enc' : α → Value} {v : Value} {l : List α} (h : Row w e enc v l) (he : ∀ x ∈ l, enc' x = enc x) : Row w e enc' v l := by
  unfold Row at h ⊢
  rw [List.map_congr_left he]
  exact h
theorem wrow_congr {α : Type} {w : World} {e : TypeId} {enc enc' : α → Value} {v : Value} {l : List α} (h : WRow w e enc v l) (he : ∀ x ∈ l, enc' x = enc x) : WRow w e enc' v l := h.imp (fun h => row_congr h he) id
theorem flatMap_congr' {α β : Type} : ∀ {l : List α} {f g : α → List β}, (∀ x ∈ l, f x = g x) → l.flatMap f = l.flatMap g
  | [], _, _, _ => rfl
  | a :: l, f, g, h => by rw [List.flatMap_cons, List.flatMap_cons, h a List.mem_cons_self, flatMap_congr' fun x hx => h x (List.mem_cons_of_mem _ hx)]
/-- Roles, with a new clause's block and its literals'. -/
def newCl (R : Nat → Option Role) (n c : Nat) (v : Value) : Nat → Option Role := fun b => if b = n then some (.cl c) else if v.ownBlock = some b then some (.lits c) else R b
theorem SRep.new_cl (h : SRep w R p s ids vv hv pv lv tv mv bm kvs) {v : Value} {x : Cl} (hrow : Row w 3 iI v x.lits) (hown : ∀ g, v.ownBlock = some g → R g = none) :
    SRep (w.alloc (.cells #[v, .bool x.learnt, .int .i64 x.score] 62)) (newCl R w.heap.size s.cls.length v) p { s with cls := s.cls ++ [x] } (ids ++ [w.heap.size]) vv hv pv lv tv mv bm kvs := by
  have hf := frm_alloc w (.cells #[v, .bool x.learnt, .int .i64 x.score] 62)
  have hR : ∀ b r, R b = some r → newCl R w.heap.size s.cls.length v b = some r := fun b r hb => by
    unfold newCl
    rw [if_neg (by have := h.lt b r hb; omega), if_neg (fun e => by rw [hown b e] at hb; cases hb)]
    exact hb
  have H := h.frm0 hf
  have hil : ∀ c, c < s.cls.length → c < ids.length := fun c hc => by rw [h.idl]; exact hc
  refine ⟨H.box, ?_, H.heap, H.place, row_congr H.learnt fun c hc => encC_snoc _ _ (hil c (h.refs.2.2 c hc)), H.trail, H.limits, H.map, H.keys, fun i n v l h1 h2 => ?_, ?_, fun c y hy => ?_,
    hR _ _ h.rme, fun g hg => hR _ _ (h.rvars g hg), fun g hg => hR _ _ (h.rheap g hg), fun g hg => hR _ _ (h.rplace g hg), fun g hg => hR _ _ (h.rlearnt g hg), fun g hg => hR _ _ (h.rtrail g hg), fun g hg => hR _ _ (h.rlimits g hg), hR _ _ h.rmap, fun b r hb => ?_, ⟨?_, ?_, ?_⟩, H.wnd, fun b c hb => ?_⟩
  · have hv := H.vars
    unfold SRow at hv ⊢
    rw [flatMap_congr' (g := (encF ids).cells) fun y hy => ?_]
    · exact hv
    · show fcells (ids ++ [w.heap.size]) y = fcells ids y
      unfold fcells
      rw [encR_snoc ids _ fun c hc => hil c (h.refs.1 y hy c hc)]
  · obtain ⟨h3, h4⟩ := H.rows i n v l h1 h2
    exact ⟨wrow_congr h3 fun c hc => encC_snoc _ _ (hil c (h.refs.2.1 _ (List.mem_of_getElem? h2) c hc)), fun g hg => hR _ _ (h4 g hg)⟩
  · simp [h.idl]
  · by_cases hc : c < s.cls.length
    · rw [List.getElem?_append_left hc] at hy
      obtain ⟨b, u, h1, h2, h3, h4, h5⟩ := H.cls c y hy
      exact ⟨b, u, by rw [List.getElem?_append_left (hil c hc)]; exact h1, hR _ _ h2, h3, h4, fun g hg => hR _ _ (h5 g hg)⟩
    · have hc2 := (List.getElem?_eq_some_iff.1 hy).1
      simp at hc2
      have hce : c = s.cls.length := by omega
      subst hce
      rw [List.getElem?_append_right (Nat.le_refl _), Nat.sub_self] at hy
      cases hy
      refine ⟨w.heap.size, v, by rw [← h.idl, List.getElem?_append_right (Nat.le_refl _), Nat.sub_self]; rfl, if_pos rfl, blk_new _, hrow.frm0 hf, fun g hg => ?_⟩
      unfold newCl
      rw [if_neg (by have := hrow.lt g hg; omega), if_pos hg]
  · unfold newCl at hb
    split at hb
    · rename_i e; subst e; simp
    · split at hb
      · rename_i e
        have := hrow.lt b e
        simp; omega
      · have := h.lt b r hb
        simp; omega
  · intro y hy c hc
    have := h.refs.1 y hy c hc
    simp; omega
  · intro y hy c hc
    have := h.refs.2.1 y hy c hc
    simp; omega
  · intro c hc
    have := h.refs.2.2 c hc
    simp; omega
  · unfold newCl at hb
    split at hb
    · rename_i e
      cases hb
      subst e
      rw [← h.idl, List.getElem?_append_right (Nat.le_refl _), Nat.sub_self]
      rfl
    · split at hb
      · cases hb
      · have h1 := h.onec b c hb
        rw [List.getElem?_append_left (List.getElem?_eq_some_iff.1 h1).1]
        exact h1
theorem newCl_mov {T : Role → Prop} {B c : Nat} {v : Value} {o : Obj} (h : SRep w R p s ids vv hv pv lv tv mv bm kvs) (hB : B ≤ w.heap.size) (hown : ∀ g, v.ownBlock = some g → R g = none ∧ B ≤ g) : SMovB T B R w (newCl R w.heap.size c v) (w.alloc o) := by
  refine ⟨(frm_alloc w o).mono fun _ _ h => h.elim, fun b r hb => ?_, fun b hb => ?_⟩
  · unfold newCl
    rw [if_neg (by have := h.lt b r hb; omega), if_neg (fun e => by rw [(hown b e).1] at hb; cases hb)]
    exact hb
  · unfold newCl at hb
    split at hb
    · rename_i e; subst e; exact .inr hB
    · split at hb
      · rename_i e; exact .inr (hown b e).2
      · exact .inl hb
end
section
variable {w : World} {R : Nat → Option Role} {p : Nat} {s s' : St}
def ChInv (R : Nat → Option Role) (w : World) (p : Nat) (v : Int) (s' : St) (k : Nat) (w' : World) : Prop := ∃ sj Rj, chooseF k sj = some (v, s') ∧ SolverAt w' Rj p sj ∧ SMov HeapT R w Rj w'
set_option maxRecDepth 100000 in
set_option maxHeartbeats 2000000 in
theorem choose_calls (h : SolverAt w R p s) (k : Nat) (v : Int) (hs : chooseF k s = some (v, s')) : Calls Try.prog 57 #[.pointer (some ⟨p, 0, none⟩)] w (SPost R w p (.int .i64 v) s') := by
  have HG0 : Hid (ChInv R w p v s' k w) := Lib.hid ⟨s, R, hs, h, SMov.of0 (Frm.refl _ _)⟩
  clear hs h
  go_enter Try.func57, Try.ntmps57
  go_wp2_with fail
  go_loopw [] (fun w' => Hid (∃ k, ChInv R w p v s' k w')) (fun w' => leastK fun k => ChInv R w p v s' k w')
  case atStart => exact Lib.hid ⟨k, HG0.out⟩
  case round =>
    clear HG0
    obtain ⟨hI, hmin⟩ := leastK_spec hrel.out
    obtain ⟨k0, hk0⟩ : ∃ k0, k0 = leastK fun k => ChInv R w p v s' k wr := ⟨_, rfl⟩
    rw [← hk0] at hI hmin ⊢
    have HMIN := Lib.hid hmin
    clear hrel hmin hk0
    obtain ⟨sj, Rj, hsp, hSj, hMj⟩ := hI
    have HSj := Lib.hid hSj
    have HMj := Lib.hid hMj
    obtain ⟨ids, vv, hv, pv, lv, tv, mv, bm, kvs, H⟩ := hSj
    obtain ⟨_, c1, _⟩ := H.cells
    obtain ⟨HA, hc, rfl, _⟩ := sees_slice H.heap.sees
    cases k0 with
    | zero => cases hsp
    | succ k0 =>
    unfold chooseF at hsp
    clear H hMj
    by_cases h0 : sj.heap.length = 0
    · rw [if_pos h0] at hsp
      cases hsp
      have e0 : decide ((0 : Int) < (s'.heap.length : Int)) = false := by simp [h0]
      rw [h0] at c1
      clear h0 e0
      go_wp2
      go_ret
      exact ⟨rfl, Rj, HSj.out, HMj.out⟩
    · rw [if_neg h0] at hsp
      split at hsp
      case h_1 => cases hsp
      rename_i u s1 hpop
      split at hsp
      case h_1 => cases hsp
      rename_i a ha
      have e0 : (0 : Int) < (sj.heap.length : Int) := by omega
      have HPOP := Lib.hid hpop
      have HAA := Lib.hid ha
      have HSP := Lib.hid hsp
      clear hpop ha hsp h0
      go_wp2_with fail
      refine (pop_calls HSj.out u HPOP.out).mono ?_
      rintro e w1 ⟨rfl, R1, HS1', HM1'⟩
      have HS1 := Lib.hid HS1'
      have HM1 := Lib.hid (HMj.out.trans HM1')
      obtain ⟨ids2, vv2, hv2, pv2, lv2, tv2, mv2, bm2, kvs2, H2⟩ := HS1'
      obtain ⟨d0, _⟩ := H2.cells
      obtain ⟨m, g, cc, rfl, hkl, hml, rfl, hrg, x0, _⟩ := fact_cells H2 HAA.out
      have hmI : (m : Int) < (s1.vars.length : Int) := by omega
      clear H2 HM1' HSj HMj c1 hml hkl
      dsimp only
      by_cases hl : a.lit = 0
      · have e1 : (a.lit == 0) = true := by simpa using hl
        have hsp := HSP.out
        rw [if_pos hl] at hsp
        cases hsp
        clear hl
        go_wp2
        go_ret
        exact ⟨rfl, R1, HS1.out, HM1.out⟩
      · have e1 : (a.lit == 0) = false := by simpa using hl
        have hsp := HSP.out
        rw [if_neg hl] at hsp
        have HI : Hid (ChInv R w p v s' k0 w1) := Lib.hid ⟨s1, R1, hsp, HS1.out, HM1.out⟩
        clear hl hsp
        go_wp2
        go_roundw
        case rel => exact Lib.hid ⟨k0, HI.out⟩
        case measure => exact Nat.lt_succ_of_le ((leastK_spec ⟨k0, HI.out⟩).2 k0 HI.out)
end
end SaW
end Go.Proofs.Ytfpjfogddepbkaa
/- model, decide, take, walked. -/
namespace Go.Proofs.Ytfpjfogddepbkaa
open Go.RowKit Go.Mem Go.Sat
namespace SaW
/-- A slice's block is none of the solver's. -/
def OutOf (R : Nat → Option Role) (v : Value) : Prop := ∀ g, InBlk v g → R g = none
theorem OutOf.sees {T : Role → Prop} {R R' : Nat → Option Role} {w w' : World} {v : Value} {l : List Int} (ho : OutOf R v) (h : Sees w iI v l) (hM : SMov T R w R' w') : Sees w' iI v l := h.frm hM.1 fun g hg _ ⟨r, h1, _⟩ => by rw [ho g hg] at h1; cases h1
theorem OutOf.mov {T : Role → Prop} {R R' : Nat → Option Role} {w w' : World} {v : Value} {l : List Int} (ho : OutOf R v) (h : Sees w iI v l) (hx : l ≠ []) (hM : SMov T R w R' w') : OutOf R' v := fun g hg => hM.out (h.inlt hg hx) (ho g hg)
theorem sees_keep {T : Role → Prop} {R R' : Nat → Option Role} {w w' : World} {v : Value} {l : List Int} (ho : l = [] ∨ OutOf R v) (h : Sees w iI v l) (hM : SMov T R w R' w') : Sees w' iI v l := by
  rcases ho with rfl | ho
  · rcases h with h | ⟨g, o, c, h1, h2, h3, _⟩
    · exact .inl h
    · exact .inr ⟨g, o, c, h1, h2, h3, fun i x hx => by simp at hx⟩
  · exact ho.sees h hM
section
variable {w : World} {R : Nat → Option Role} {p : Nat} {s s' : St}
set_option maxRecDepth 100000 in
set_option maxHeartbeats 2000000 in
theorem model_calls (h : SolverAt w R p s) (hroom : s.vars.length ≤ 1099511627776) : Calls Try.prog 39 #[.pointer (some ⟨p, 0, none⟩)] w fun e w' => ∃ v, e = .returned v ∧ Row w' 3 iI v (modelF s) ∧ Frm (fun _ => False) w w' ∧ ∀ g, v.ownBlock = some g → w.heap.size ≤ g := by
  obtain ⟨i0, hi, hz0, hz1, hz2⟩ := info_parts info_int
  have HS0 := Lib.hid h
  obtain ⟨ids, vv, hv, pv, lv, tv, mv, bm, kvs, H⟩ := h
  have HS := Lib.hid H
  obtain ⟨VA, vc, rfl, _⟩ := H.vars.slice
  have Hroom := Lib.hid hroom
  clear H hroom
  go_enter Try.func39, Try.ntmps39
  go_wp2_with fail
  go_loopw [3, 4] (fun v3 v4 w' => ∃ j : Nat, v4 = .int .i64 ((j : Int) + 1) ∧ j ≤ s.vars.length - 1 ∧ Hid (Row w' 3 iI v3 ((modelF s).take j)) ∧ Hid (Frm (fun _ => False) w w') ∧ Hid (∀ g, v3.ownBlock = some g → w.heap.size ≤ g)) (fun _ v4 _ => s.vars.length - (intOf v4).toNat)
  case atStart => exact ⟨0, rfl, by omega, Lib.hid (Row.nil _ _ _), Lib.hid (Frm.refl _ _), Lib.hid fun g e => by cases e⟩
  case round =>
    obtain ⟨j, rfl, hj, HRj, HFj, HOj⟩ := hrel
    have H := HS.out.frm0 HFj.out
    obtain ⟨c0, _⟩ := H.cells
    by_cases hjl : j + 1 < s.vars.length
    · have hjI : (j : Int) + 1 < (s.vars.length : Int) := by omega
      obtain ⟨k, g, cc, hk, hkl, hml, hvv, hrg, x0, _⟩ := fact_cells H (i := ((j + 1 : Nat) : Int)) (a := s.vars[j + 1]) (by unfold nth; rw [if_pos (Int.natCast_nonneg _), Int.toNat_natCast, List.getElem?_eq_getElem hjl])
      have hkk : k = j + 1 := by omega
      subst hkk
      injection hvv with hA _ hcc
      subst hA
      subst hcc
      obtain ⟨m, hm⟩ : ∃ m, m = s.vars[j + 1].lit := ⟨_, rfl⟩
      rw [← hm] at x0
      have hmj : (modelF s)[j]? = some m := by
        unfold modelF
        rw [List.getElem?_map, List.getElem?_drop, show 1 + j = j + 1 by omega, List.getElem?_eq_getElem hjl, hm]
        rfl
      have HMJ := Lib.hid hmj
      obtain ⟨LA, lc, hv3, _⟩ := sees_slice HRj.out.sees
      subst hv3
      obtain ⟨xs, hxs⟩ : ∃ xs, xs = (modelF s).take j := ⟨_, rfl⟩
      rw [← hxs] at HRj HOj ⊢
      have hxl : Hid (xs.length = j) := Lib.hid (by rw [hxs, List.length_take]; unfold modelF; simp; omega)
      have HXS := Lib.hid hxs
      clear H hk hml hm hmj hxs hkl
      have hsz := HFj.out.size
      go_wp2_with (at_builtin; refine wpList_append_row rfl _ _ 26 rfl 3 i0 (.int .i64 0) 8 Try.underlying26 hi hz0 hz1 hz2 rfl (enc := iI) (.slice LA xs.length lc) xs rfl (HRj.out.frm0 (frm_alloc wr (.cells #[.int .i64 m] 3))) ⟨wr.heap.size, 0, none⟩ 1 m rfl ?c1 rfl ?c2 ?c3 ?_)
      case c2 => have := Hroom.out; have := hxl.out; have : maxLen = 9223372036854775807 := rfl; omega
      case c3 => have := Hroom.out; have := hxl.out; omega
      intro g7 cap7 w7 hrow hfr hg hlt7
      obtain ⟨n7, hn7⟩ : ∃ n7, n7 = xs.length + 1 := ⟨_, rfl⟩
      rw [← hn7] at hrow ⊢
      have hfa := frm_alloc wr (.cells #[.int .i64 m] 3)
      have hg' : w.heap.size ≤ g7 := by
        rcases hg with hg | hg
        · exact HOj.out g7 hg
        · omega
      have HF7 : Hid (Frm (fun _ => False) w w7) := Lib.hid ((HFj.out.trans hfa (fun _ _ h => h)).trans hfr (fun x hx e => absurd (HOj.out x e) (by omega)))
      have HR7 : Hid (Row w7 3 iI (.slice (some ⟨g7, 0, none⟩) n7 cap7) ((modelF s).take (j + 1))) := Lib.hid (by rw [List.take_add_one, HMJ.out, ← HXS.out]; exact hrow)
      have HO7 : Hid (∀ g, (Value.slice (some ⟨g7, 0, none⟩) n7 cap7).ownBlock = some g → w.heap.size ≤ g) := Lib.hid fun g e => by cases e; exact hg'
      have hw1 : wrap64 ((j : Int) + 1 + 1) = (j : Int) + 1 + 1 := by have := Hroom.out; unfold wrap64; omega
      clear hrow hfr hg hlt7 hn7 hfa hg' HRj HFj HOj x0 c0
      go_wp2
      go_roundw
      case rel => exact ⟨j + 1, by rw [hw1]; rfl, by omega, HR7, HF7, HO7⟩
      case measure => rw [hw1]; simp only [intOf]; omega
    · have hjI : ¬ (j : Int) + 1 < (s.vars.length : Int) := by omega
      clear H
      go_wp2
      go_ret
      refine ⟨_, rfl, ?_, HFj.out, HOj.out⟩
      have := HRj.out
      rw [List.take_of_length_le (by unfold modelF; simp; omega)] at this
      exact this
def DecideT (r : Role) : Prop := r = .limits ∨ r = .heap ∨ r = .place ∨ r = .me
/-- What decide hands back. -/
def DecPost (R : Nat → Option Role) (w : World) (p : Nat) (n : Int) (b : Bool) (s' : St) (e : Ending) (w' : World) : Prop := e = .returned (.tuple #[.int .i64 n, .bool b]) ∧ ∃ R', SolverAt w' R' p s' ∧ SMov DecideT R w R' w'
def DecInv (R : Nat → Option Role) (w : World) (p : Nat) (assume : List Int) (n : Int) (b : Bool) (s' : St) (k : Nat) (w' : World) : Prop := ∃ sj Rj, decideL k sj assume = some ((n, b), s') ∧ SolverAt w' Rj p sj ∧ SMov DecideT R w Rj w'
set_option maxRecDepth 100000 in
set_option maxHeartbeats 2000000 in
theorem decide_calls (h : SolverAt w R p s) (k : Nat) (va : Value) (assume : List Int) (hA : Sees w iI va assume) (hO : assume = [] ∨ OutOf R va) (n : Int) (b : Bool) (hs : decideL k s assume = some ((n, b), s')) : Calls Try.prog 37 #[.pointer (some ⟨p, 0, none⟩), va] w (DecPost R w p n b s') := by
  obtain ⟨i0, hi, hz0, hz1, hz2⟩ := info_parts info_int
  have HA := Lib.hid hA
  have HO := Lib.hid hO
  obtain ⟨AA, ac, rfl, hac⟩ := sees_slice hA
  have HG0 : Hid (DecInv R w p assume n b s' k w) := Lib.hid ⟨s, R, hs, h, SMov.of0 (Frm.refl _ _)⟩
  have hal := hA.len
  have hal2 : assume.length ≤ 9223372036854775807 := hal
  have HAC := Lib.hid hac
  clear hs h hA hO hal hac
  go_enter Try.func37, Try.ntmps37
  go_wp2_with fail
  go_loopw [] (fun w' => Hid (∃ k, DecInv R w p assume n b s' k w')) (fun w' => leastK fun k => DecInv R w p assume n b s' k w')
  case atStart => exact Lib.hid ⟨k, HG0.out⟩
  case round =>
    clear HG0
    obtain ⟨hI, hmin⟩ := leastK_spec hrel.out
    obtain ⟨k0, hk0⟩ : ∃ k0, k0 = leastK fun k => DecInv R w p assume n b s' k wr := ⟨_, rfl⟩
    rw [← hk0] at hI hmin ⊢
    have HMIN := Lib.hid hmin
    clear hrel hmin hk0
    obtain ⟨sj, Rj, hsp, hSj, hMj⟩ := hI
    have HSj := Lib.hid hSj
    have HMj := Lib.hid hMj
    have HLv : Hid (∀ w1, Frm (fun _ => False) wr w1 → Calls Try.prog 33 #[.pointer (some ⟨p, 0, none⟩)] w1 fun e w' => e = .returned (.int .i64 (sj.limits.length : Nat)) ∧ Frm (fun _ => False) w1 w') := Lib.hid fun w1 hf => level_calls (hSj.frm0 hf)
    have hAr : Sees wr iI (.slice AA assume.length ac) assume := sees_keep HO.out HA.out hMj
    cases k0 with
    | zero => cases hsp
    | succ k0 =>
    unfold decideL at hsp
    clear hSj hMj
    by_cases hlt : levelF sj < (assume.length : Int)
    · rw [if_pos hlt] at hsp
      have hltI : ((sj.limits.length : Nat) : Int) < (assume.length : Int) := hlt
      have hltN : sj.limits.length < assume.length := by omega
      split at hsp
      case h_1 => cases hsp
      rename_i m hm
      split at hsp
      case h_1 => cases hsp
      rename_i v hv
      obtain ⟨ga, oa, rfl, xa⟩ : ∃ g o, AA = some ⟨g, o, none⟩ ∧ wr.cell? ⟨g, o + sj.limits.length, none⟩ = some (iI m) := by
        obtain ⟨A', c', e1, hc⟩ := sees_slice hAr
        injection e1 with ea eb ec
        obtain ⟨g, o, h1, h2⟩ := hc _ m hm
        exact ⟨g, o, ea.trans h1, h2⟩
      have HV := Lib.hid hv
      have HSP := Lib.hid hsp
      clear hsp hv hm hlt hltN hAr
      go_wp2_with fail
      refine (HLv.out _ (Frm.refl _ _)).mono ?_
      rintro e w1 ⟨rfl, hf⟩
      have HF1 := Lib.hid hf
      have xa := frm_cell hf xa
      clear hf
      dsimp only
      go_wp2_with fail
      refine (HLv.out _ HF1.out).mono ?_
      rintro e w2 ⟨rfl, hf⟩
      have HF2 := Lib.hid (frm_then HF1.out hf)
      have xa := frm_cell hf xa
      clear hf HF1
      dsimp only
      go_wp2_with fail
      refine (value_calls (HSj.out.frm0 HF2.out) m v HV.out).mono ?_
      rintro e w3 ⟨rfl, hf⟩
      have HF3 := Lib.hid (frm_then HF2.out hf)
      clear hf HF2 xa HLv
      dsimp only
      by_cases hv1 : v = -1
      · have e1 : (v == -1) = true := by rw [hv1]; rfl
        have hsp := HSP.out
        rw [if_pos hv1] at hsp
        cases hsp
        clear hv1
        go_wp2
        go_ret2
        exact ⟨rfl, Rj, HSj.out.frm0 HF3.out, HMj.out.trans (SMov.of0 HF3.out)⟩
      · have e1 : (v == -1) = false := by simpa using hv1
        by_cases hv0 : v = 0
        · have e2 : (v == 0) = true := by simpa using hv0
          have hsp := HSP.out
          rw [if_neg hv1, if_pos hv0] at hsp
          cases hsp
          clear hv1 hv0
          go_wp2
          go_ret2
          exact ⟨rfl, Rj, HSj.out.frm0 HF3.out, HMj.out.trans (SMov.of0 HF3.out)⟩
        · have e2 : (v == 0) = false := by simpa using hv0
          have hsp := HSP.out
          rw [if_neg hv1, if_neg hv0] at hsp
          split at hsp
          case isTrue => cases hsp
          rename_i hroom
          have Hroom : Hid (sj.limits.length ≤ 1099511627776) := Lib.hid (room_of (by simpa using hroom))
          have HSP2 := Lib.hid hsp
          obtain ⟨ids, vv, hv', pv, lv, tv, mv, bm, kvs, H⟩ := HSj.out.frm0 HF3.out
          have HS3 := Lib.hid H
          obtain ⟨_, _, _, _, _, c5, c6, _⟩ := H.cells
          obtain ⟨TA, tc, rfl, _⟩ := sees_slice H.trail.sees
          obtain ⟨LA, lc, rfl, _⟩ := sees_slice H.limits.sees
          have hbl := H.lt p _ H.rme
          obtain ⟨s1, hs1⟩ : ∃ s1, s1 = sj := ⟨_, rfl⟩
          rw [← hs1] at Hroom c5 c6 HS3 HSP2 
          clear H hsp hroom hv1 hv0 hltI hs1 HSj HSP
          go_wp2_with fail
          refine Plan.wp_region_plan [0, 0, 2, 6, 14, 0, 32, 96, 224, 480, 992, 2046, 4095, 8191, 16383] [.mk [0, 1, 2, 3, 4, 5, 6, 7, 8, 9] 10 [0, 1, 2, 3, 4], .mk [] 11 [0], .mk [12, 13] 14 []] [] (by kernel_rfl) (by kernel_rfl) ?_
          simp only [Plan.wayOf, Plan.pickAll, List.getElem?_cons_zero, List.getElem?_cons_succ, List.getD_eq_getElem?_getD, Option.getD_some]
          refine Plan.wpWay_seg ?_
          repeat go_big_quiet_step (fail)
          refine wpQuiet_nil ?_; refine Plan.wpWay_act ?_
          go_wp2_with (fail)
          refine And.intro ?_ ?_; focus ((iterate 5 (refine Plan.again_cons ?_ ?_; focus (go_big_quiet_step (fail); exact wpQuiet_nil rfl))); exact Plan.again_nil)
          refine Plan.wpWay_seg ?_
          refine wpQuiet_nil ?_; refine Plan.wpWay_act ?_
          refine (wpList_append_row rfl _ _ 26 rfl 3 i0 (.int .i64 0) 8 Try.underlying26 hi hz0 hz1 hz2 rfl (enc := iI) (.slice LA s1.limits.length lc) s1.limits rfl (HS3.out.limits.frm0 ((frm_alloc w3 (.cells #[.int .i64 (s1.trail.length : Nat)] 3)).drew)) ⟨w3.heap.size, 0, none⟩ 1 (s1.trail.length : Nat) rfl ?c1 rfl ?c2 ?c3 ?_)
          case c1 => exact blk_cell (blk_new _) 0
          case c2 => have := Hroom.out; have : maxLen = 9223372036854775807 := rfl; omega
          case c3 => have := Hroom.out; omega
          intro g7 cap7 w7 hrow hfr hg hlt7
          have hfa : Frm (fun _ => False) w3 (w3.alloc (.cells #[.int .i64 (s1.trail.length : Nat)] 3)).drew := (frm_alloc w3 (.cells #[.int .i64 (s1.trail.length : Nat)] 3)).drew
          obtain ⟨HP, HM⟩ := (HS3.out.frm0 hfa).push_limits hrow hfr (hg.imp id fun h => by rw [h]; exact Nat.le_refl _) hlt7
          have hnp : ¬ (Value.slice LA s1.limits.length lc).ownBlock = some p := fun e => by have h1 := HS3.out.rlimits p e; rw [HS3.out.rme] at h1; cases h1
          have b7 := blk_frm (HS3.out.frm0 hfa).box hfr hnp
          have c6' : w7.cell? ⟨p, 6, none⟩ = some (.slice LA s1.limits.length lc) := blk_cell b7 6
          have z7 : ∀ i, w7.frozen? ⟨p, i, none⟩ = false := fun i => blk_free b7 i
          have HP1 := Lib.hid HP
          have HM1 := Lib.hid (((HMj.out.trans (SMov.of0 HF3.out)).trans (SMov.of0 hfa)).trans (HM.mono fun r hr => hr.elim .inl fun e => .inr (.inr (.inr e))))
          clear HP HM hrow hfr hg hlt7 hfa hnp b7
          go_wp2_with fail
          refine And.intro ?_ ?_; focus ((iterate 1 (refine Plan.again_cons ?_ ?_; focus (go_big_quiet_step (fail); exact wpQuiet_nil rfl))); exact Plan.again_nil)
          refine Plan.wpWay_seg ?_
          repeat go_big_quiet_step (fail)
          refine wpQuiet_nil ?_; refine Plan.wpWay_act ?_
          go_wp2_with (fail)
          refine And.intro Plan.again_nil ?_
          refine Plan.wpWay_last ?_
          refine wpQuiet_nil ?_; refine NoPanic.normal ?_
          obtain ⟨w8, hw8⟩ : ∃ w8, w8 = w7.setCell ⟨p, 6, none⟩ (.slice (some ⟨g7, 0, none⟩) (s1.limits.length + 1) cap7) := ⟨_, rfl⟩
          rw [← hw8] at HP1 HM1 ⊢
          have HI : Hid (DecInv R w p assume n b s' k0 w8) := Lib.hid ⟨_, _, HSP2.out, ⟨_, _, _, _, _, _, _, _, _, HP1.out⟩, HM1.out⟩
          clear hw8 HP1 HM1 c6' z7 c5 c6
          go_wp2
          go_roundw
          case rel => exact Lib.hid ⟨k0, HI.out⟩
          case measure => exact Nat.lt_succ_of_le ((leastK_spec ⟨k0, HI.out⟩).2 k0 HI.out)
    · rw [if_neg hlt] at hsp
      have hltI : ¬ ((sj.limits.length : Nat) : Int) < (assume.length : Int) := hlt
      split at hsp
      case h_1 => cases hsp
      rename_i v s2 hch
      have HCH := Lib.hid hch
      have HSP := Lib.hid hsp
      clear hsp hch hlt hAr
      go_wp2_with fail
      refine (HLv.out _ (Frm.refl _ _)).mono ?_
      rintro e w1 ⟨rfl, hf⟩
      have HF1 := Lib.hid hf
      clear hf HLv
      dsimp only
      go_wp2_with fail
      refine (choose_calls (HSj.out.frm0 HF1.out) _ v HCH.out).mono ?_
      rintro e w2 ⟨rfl, R2, HS2', HM2'⟩
      have HS2 := Lib.hid HS2'
      have HM2 := Lib.hid ((HMj.out.trans (SMov.of0 HF1.out)).trans (HM2'.mono fun r hr => .inr hr))
      clear HM2' HSj HMj HF1
      dsimp only
      by_cases hv0 : 0 < v
      · have hsp := HSP.out
        rw [if_pos hv0] at hsp
        split at hsp
        case h_1 => cases hsp
        rename_i a ha
        split at hsp
        case isTrue => cases hsp
        rename_i hsm
        have hsm' := sml_of (n := v) (by simpa using hsm)
        obtain ⟨ids2, vv2, hv2, pv2, lv2, tv2, mv2, bm2, kvs2, H2⟩ := HS2'
        obtain ⟨d0, _⟩ := H2.cells
        obtain ⟨m, g, cc, rfl, hkl, hml, rfl, hrg, _, _, _, _, x4⟩ := fact_cells H2 ha
        have hmI : (m : Int) < (s2.vars.length : Int) := by omega
        have hm0 : 0 < m := by omega
        have hneg : wrap64 (-(m : Int)) = -(m : Int) := by unfold Sml at hsm'; unfold wrap64; omega
        have HSP3 := Lib.hid hsp
        clear H2 hsp hsm hsm' ha hml hkl HSP
        by_cases hph : a.phase = (m : Int)
        · have e1 : (a.phase != (m : Int)) = false := by simpa using hph
          have hsp := HSP3.out
          rw [if_pos hph] at hsp
          cases hsp
          clear hph hneg hv0
          go_wp2
          go_ret2
          exact ⟨rfl, R2, HS2.out, HM2.out⟩
        · have e1 : (a.phase != (m : Int)) = true := by simpa using hph
          have hsp := HSP3.out
          rw [if_neg hph] at hsp
          cases hsp
          clear hph hv0
          go_wp2
          go_ret2
          rw [hneg]
          exact ⟨rfl, R2, HS2.out, HM2.out⟩
      · have hsp := HSP.out
        rw [if_neg hv0] at hsp
        have e0 : decide ((0 : Int) < v) = false := by simpa using hv0
        cases hsp
        clear hv0 HS2'
        go_wp2
        go_ret2
        exact ⟨rfl, R2, HS2.out, HM2.out⟩
end
end SaW
end Go.Proofs.Ytfpjfogddepbkaa
/- A clause that was learnt taken, walked: take. -/
namespace Go.Proofs.Ytfpjfogddepbkaa
open Go.RowKit Go.Mem Go.Sat
namespace SaW
def SPoB (T : Role → Prop) (B : Nat) (R : Nat → Option Role) (w : World) (p : Nat) (ret : Value) (s' : St) (e : Ending) (w' : World) : Prop := e = .returned ret ∧ ∃ R', SolverAt w' R' p s' ∧ SMovB T B R w R' w'
section
variable {w : World} {R : Nat → Option Role} {p : Nat} {s s' : St}
theorem own_not {w w' : World} {T : Role → Prop} {R R' : Nat → Option Role} {v : Value} {xs : List Int} (hrow : Row w 3 iI v xs) (ho : ∀ g, v.ownBlock = some g → R g = none) (hM : SMov T R w R' w') : Row w' 3 iI v xs ∧ ∀ g, v.ownBlock = some g → R' g = none :=
  ⟨hrow.frm hM.1 fun g hg ⟨r, h1, _⟩ => (by rw [ho g hg] at h1; cases h1), fun g hg => hM.out (hrow.lt g hg) (ho g hg)⟩
set_option maxRecDepth 100000 in
set_option maxHeartbeats 2000000 in
theorem take_calls (h : SolverAt w R p s) (lits : List Int) (v : Value) (hrow : Row w 3 iI v lits) (B : Nat) (hB : B ≤ w.heap.size) (hown : ∀ g, v.ownBlock = some g → R g = none ∧ B ≤ g) (back : Int) (hs : takeF s lits back = some s') : Calls Try.prog 34 #[.pointer (some ⟨p, 0, none⟩), v, .int .i64 back] w (SPoB AnyT B R w p (.tuple #[]) s') := by
  obtain ⟨i0, hi, hz0, hz1, hz2⟩ := info_parts info_cp
  unfold takeF at hs
  split at hs
  case h_1 => cases hs
  rename_i s1 hbk
  have HBK := Lib.hid (back_calls h back hbk)
  have HSP := Lib.hid hs
  have HROW := Lib.hid hrow
  have HOWN := Lib.hid hown
  have HB := Lib.hid hB
  obtain ⟨LA, lc, rfl, _⟩ := sees_slice hrow.sees
  have hl63 : lits.length ≤ 9223372036854775807 := hrow.sees.len
  clear hs hbk hrow hown hB h
  go_enter Try.func34, Try.ntmps34
  go_wp2_with fail
  refine HBK.out.mono ?_
  rintro e w1 ⟨rfl, R1, HS1', HM1'⟩
  obtain ⟨hr1, ho1⟩ := own_not HROW.out (fun g hg => (HOWN.out g hg).1) HM1'
  have HR1 := Lib.hid hr1
  have HO1 := Lib.hid ho1
  have HS1 := Lib.hid HS1'
  have HM1 := Lib.hid ((HM1'.any).toB HB.out)
  have HB1 := Lib.hid (Nat.le_trans HB.out HM1'.1.size)
  have HOB := Lib.hid (fun g hg => (HOWN.out g hg).2)
  clear HM1' hr1 ho1 HBK HROW HOWN HB
  dsimp only
  match lits, HSP, HR1, HO1, HOB with
  | [], HSP, _, _, _ => exact absurd HSP.out (by simp)
  | [n], HSP, HR1, HO1, HOB =>
    obtain ⟨g, c, e1, _, _, x0, _⟩ := row_at HR1.out (k := 0) (by simp)
    injection e1 with ea eb ec
    subst ea
    subst ec
    simp only [List.getElem_cons_zero] at x0
    have HST := Lib.hid (show setF s1 n none = some s' from HSP.out)
    clear HS1'
    go_wp2_with fail
    refine (set_calls HS1.out n none none HST.out rfl).mono ?_
    rintro e w2 ⟨rfl, R2, HS2, HM2⟩
    have HS2' := Lib.hid HS2
    have HM2' := Lib.hid (HM1.out.trans (HM2.any.toB HB1.out))
    clear HS2 HM2
    dsimp only
    go_wp2
    go_end0
    exact ⟨rfl, R2, HS2'.out, HM2'.out⟩
  | n :: n2 :: r, HSP, HR1, HO1, HOB =>
    have hsp := HSP.out
    simp only at hsp
    split at hsp
    case isTrue => cases hsp
    rename_i hroom
    have Hroom : Hid (s1.learnt.length ≤ 1099511627776) := Lib.hid (room_of (by simpa using hroom))
    obtain ⟨s3, hwt, hst⟩ := Option.bind_eq_some_iff.1 hsp
    have HWT := Lib.hid hwt
    have HST := Lib.hid hst
    obtain ⟨lits, hlits⟩ : ∃ lits, lits = n :: n2 :: r := ⟨_, rfl⟩
    have h2 : 2 ≤ lits.length := by rw [hlits]; simp
    rw [← hlits] at HR1 HO1 HOB HWT hl63 ⊢
    obtain ⟨g, c, e1, _, _, x0, _⟩ := row_at HR1.out (k := 0) (by omega)
    injection e1 with ea eb ec
    subst ea
    subst ec
    have hx0 : lits[0]'(by omega) = n := by simp only [hlits, List.getElem_cons_zero]
    rw [hx0] at x0
    have e2 : ((lits.length : Int) == 1) = false := by simp; omega
    have hl0 : (0 : Int) < (lits.length : Int) := by omega
    obtain ⟨ids, vv, hv, pv, lv, tv, mv, bm, kvs, H⟩ := HS1'
    obtain ⟨_, _, _, _, _, _, _, _, c8, _⟩ := H.cells
    have HS := Lib.hid H
    obtain ⟨LL, llc, rfl, _⟩ := sees_slice H.learnt.sees
    obtain ⟨_, _, _, _, c4, _⟩ := H.cells
    have hbl := H.lt p _ H.rme
    have hN := H.new_cl (x := ⟨lits, true, s1.conflicts⟩) HR1.out HO1.out
    have hNM := newCl_mov (T := AnyT) (B := B) (c := s1.cls.length) (o := (.cells #[.slice (some ⟨g, 0, none⟩) lits.length lc, .bool true, .int .i64 s1.conflicts] 62)) H HB1.out (fun g hg => ⟨HO1.out g hg, HOB.out g hg⟩)
    have HN := Lib.hid hN
    have HM2 := Lib.hid (HM1.out.trans hNM)
    have henc : encC (ids ++ [w1.heap.size]) s1.cls.length = .pointer (some ⟨w1.heap.size, 0, none⟩) := by
      show ptr ((ids ++ [w1.heap.size]).getD s1.cls.length 0) = _
      rw [← H.idl, List.getD_eq_getElem?_getD, List.getElem?_append_right (Nat.le_refl _), Nat.sub_self]
      rfl
    have HEN := Lib.hid henc
    have hB2 : B ≤ w1.heap.size := HB1.out
    have HB2 := Lib.hid hB2
    obtain ⟨RN, hRN⟩ : ∃ RN, RN = newCl R1 w1.heap.size s1.cls.length (.slice (some ⟨g, 0, none⟩) lits.length lc) := ⟨_, rfl⟩
    have hrcl : RN w1.heap.size = some (.cl s1.cls.length) := by rw [hRN]; exact if_pos rfl
    rw [← hRN] at HN HM2
    have HRCL := Lib.hid hrcl
    have hrl : RN g = some (.lits s1.cls.length) := by rw [hRN]; unfold newCl; rw [if_neg (by have := World.block_lt_of_cell? _ _ x0; simp at this; omega)]; exact if_pos rfl
    have HRL := Lib.hid hrl
    clear H hsp hwt hst hroom hlits hx0 h2 hN hNM henc hB2 hRN hrcl hrl HS
    go_wp2_with (at_builtin; refine wpList_append_row rfl _ _ 47 rfl 58 i0 (.pointer none) 8 Try.underlying47 hi hz0 hz1 hz2 rfl (enc := encC (ids ++ [w1.heap.size])) (.slice LL s1.learnt.length llc) s1.learnt rfl (HN.out.learnt.frm0 (frm_alloc _ (.cells #[.pointer (some ⟨w1.heap.size, 0, none⟩)] 58))) ⟨w1.heap.size + 1, 0, none⟩ 1 s1.cls.length rfl ?c1 rfl ?c2 ?c3 ?_)
    case c1 => exact HEN.out.symm
    case c2 => have := Hroom.out; have : maxLen = 9223372036854775807 := rfl; omega
    case c3 => have := Hroom.out; omega
    intro g7 cap7 w7 hrow hfr hg hlt7
    have hfa := frm_alloc (w1.alloc (.cells #[.slice (some ⟨g, 0, none⟩) lits.length lc, .bool true, .int .i64 s1.conflicts] 62)) (.cells #[.pointer (some ⟨w1.heap.size, 0, none⟩)] 58)
    have hNs := HN.out.frm0 hfa
    obtain ⟨HP, HM⟩ := hNs.push_learnt hrow hfr (hg.imp id fun h => by rw [h]; simp) hlt7 (by simp)
    have hnp : ¬ (Value.slice LL s1.learnt.length llc).ownBlock = some p := fun e => by have h1 := hNs.rlearnt p e; rw [hNs.rme] at h1; cases h1
    have b7 := blk_frm hNs.box hfr hnp
    have c4' : w7.cell? ⟨p, 4, none⟩ = some (.slice LL s1.learnt.length llc) := blk_cell b7 4
    have z7 : ∀ i, w7.frozen? ⟨p, i, none⟩ = false := fun i => blk_free b7 i
    have hB4 : B ≤ (w1.alloc (.cells #[.slice (some ⟨g, 0, none⟩) lits.length lc, .bool true, .int .i64 s1.conflicts] 62)).heap.size := Nat.le_trans HB2.out (by simp)
    have hB5 : B ≤ ((w1.alloc (.cells #[.slice (some ⟨g, 0, none⟩) lits.length lc, .bool true, .int .i64 s1.conflicts] 62)).alloc (.cells #[.pointer (some ⟨w1.heap.size, 0, none⟩)] 58)).heap.size := Nat.le_trans hB4 (by simp)
    have HM3 := Lib.hid ((HM2.out.trans ((SMov.of0 hfa).toB hB4)).trans (HM.any.toB hB5))
    have HP1 := Lib.hid HP
    have hlitc : w7.heap[g]? = w1.heap[g]? := by
      have h1 := hfr.block g (by have h0 : g < w1.heap.size := World.block_lt_of_cell? _ _ x0; simp; omega) (fun e => by
        have h3 := HN.out.rlearnt g e
        have h4 : RN g = some (.lits s1.cls.length) := HRL.out
        rw [h4] at h3; cases h3)
      rw [h1]
      exact (blk_alloc (blk_alloc (Array.getElem?_eq_getElem (World.block_lt_of_cell? _ _ x0)) _) _).trans (Array.getElem?_eq_getElem (World.block_lt_of_cell? _ _ x0)).symm
    have x7 : w7.cell? ⟨g, 0, none⟩ = some (iI n) := by rw [← x0]; simp only [World.cell?, hlitc]
    have hgp : g ≠ p := fun e => by have h1 := HRL.out; have h2 := HN.out.rme; rw [e, h2] at h1; cases h1
    have x8 : (w7.setCell ⟨p, 4, none⟩ (.slice (some ⟨g7, 0, none⟩) (s1.learnt.length + 1) cap7)).cell? ⟨g, 0, none⟩ = some (iI n) := (World.cell?_setCell_other w7 ⟨p, 4, none⟩ ⟨g, 0, none⟩ _ (fun e => by injection e with e; exact hgp e.symm)).trans x7
    obtain ⟨w8, hw8⟩ : ∃ w8, w8 = w7.setCell ⟨p, 4, none⟩ (.slice (some ⟨g7, 0, none⟩) (s1.learnt.length + 1) cap7) := ⟨_, rfl⟩
    obtain ⟨R8, hR8⟩ : ∃ R8, R8 = upd RN g7 .learnt := ⟨_, rfl⟩
    have hrc8 : R8 w1.heap.size = some (.cl s1.cls.length) := by rw [hR8]; exact HM.2.1 _ _ HRCL.out
    have hrl8 : R8 g = some (.lits s1.cls.length) := by rw [hR8]; exact HM.2.1 _ _ HRL.out
    have HRC8 := Lib.hid hrc8
    have HRL8 := Lib.hid hrl8
    rw [← hw8, ← hR8] at HP1 HM3
    rw [← hw8] at x8
    have HB8 : Hid (B ≤ w8.heap.size) := Lib.hid (by rw [hw8]; simp; have h1 := hfr.size; have h2 : B ≤ w1.heap.size := HB2.out; simp at h1; omega)
    have HW8 := Lib.hid hw8
    clear HP HM hrow hfr hg hlt7 hfa hNs hnp b7 hB4 hB5 hlitc x7 hgp hR8 hrc8 hrl8 hw8 c4 c8 x0
    go_wp2_with fail
    rw [← HW8.out]
    refine (watch_calls (show SolverAt w8 R8 p _ from ⟨_, _, _, _, _, _, _, _, _, HP1.out⟩) s1.cls.length w1.heap.size HRC8.out HWT.out).mono ?_
    rintro e w9 ⟨rfl, R9, HS9, HM9⟩
    have x9 : w9.cell? ⟨g, 0, none⟩ = some (iI n) := by
      have h1 := HM9.1.block g (World.block_lt_of_cell? _ _ x8) (fun ⟨r, h1, h2⟩ => by
        rw [HRL8.out] at h1; cases h1
        rcases h2 with h2 | ⟨_, h2⟩ <;> cases h2)
      rw [← x8]; simp only [World.cell?, h1]
    have HRC9 := Lib.hid (HM9.2.1 _ _ HRC8.out)
    have HM10 := Lib.hid (HM3.out.trans (HM9.any.toB HB8.out))
    have HB9 := Lib.hid (Nat.le_trans HB8.out HM9.1.size)
    have HS9' := Lib.hid HS9
    clear HS9 HM9 x8 c4' z7
    dsimp only
    go_wp2_with fail
    refine (set_calls HS9'.out n (some s1.cls.length) (some ⟨w1.heap.size, 0, none⟩) HST.out ⟨_, rfl, HRC9.out⟩).mono ?_
    rintro e w10 ⟨rfl, R10, HS10, HM11⟩
    have HS11 := Lib.hid HS10
    have HM12 := Lib.hid (HM10.out.trans (HM11.any.toB HB9.out))
    clear HS10 HM11 x9
    dsimp only
    go_wp2
    go_end0
    exact ⟨rfl, R10, HS11.out, HM12.out⟩
end
end SaW
end Go.Proofs.Ytfpjfogddepbkaa
/- What learn holds beside the solver: what is seen, what comes out. -/
namespace Go.Proofs.Ytfpjfogddepbkaa
open Go.RowKit Go.Mem Go.Sat
namespace SaW
def LearnT (r : Role) : Prop := UsedT r ∨ ∃ c, r = .cl c
def SeenAt (w : World) (mb : Nat) (seen : List Int) : Prop := ∃ kvs, MapAt w mb iI Value.bool kvs ∧ ∀ k, (mget kvs k).getD false = decide (k ∈ seen)
theorem zeroB (w : World) : (zeroValue 4).run Try.prog w = .ok (.bool false) w := by
  have e : (Try.prog.info? 4).map (fun i => i.zero) = some (some (.bool false)) := by kernel_rfl
  obtain ⟨i, h1, h2⟩ := Option.map_eq_some_iff.1 e
  simp [zeroValue, typeInfo, h1, h2]
theorem SeenAt.look {w : World} {mb : Nat} {seen : List Int} (h : SeenAt w mb seen) (k : Int) : (Instr.lookup 79 (.map (some mb)) (.int .i64 k) false).run Try.prog w = .ok (.bool (decide (k ∈ seen))) w := by
  obtain ⟨kvs, h1, h2⟩ := h
  have := lookup_run keyInt Try.underlying79 zeroB h1 k false
  simp only [Bool.false_eq_true, if_false] at this
  rw [show (Value.int .i64 k) = iI k from rfl, this, ← h2 k]
  unfold mval
  cases mget kvs k <;> rfl
theorem SeenAt.put {w' : World} {mb : Nat} {seen : List Int} {kvs : List (Int × Bool)} (h2 : ∀ k, (mget kvs k).getD false = decide (k ∈ seen)) {k : Int} (hm : MapAt w' mb iI Value.bool (mput kvs k true)) : SeenAt w' mb (k :: seen) := by
  refine ⟨_, hm, fun k' => ?_⟩
  rw [mget_mput]
  by_cases e : k = k'
  · subst e; simp
  · rw [if_neg e, h2]
    simp [Ne.symm e]
/-- The solver, and what learn holds beside it. -/
structure Side (R0 : Nat → Option Role) (w0 : World) (R : Nat → Option Role) (w : World) (p : Nat) (s : St) (mb : Nat) (seen : List Int) (v6 : Value) (out : List Int) : Prop where
  sol : SolverAt w R p s
  mov : SMov LearnT R0 w0 R w
  seen : SeenAt w mb seen
  mbn : R mb = none
  mbB : w0.heap.size ≤ mb
  row : Row w 3 iI v6 out
  own : ∀ g, v6.ownBlock = some g → R g = none ∧ w0.heap.size ≤ g ∧ g ≠ mb
section
variable {R0 R R' : Nat → Option Role} {w0 w w' : World} {p : Nat} {s s' : St} {mb : Nat} {seen : List Int} {v6 : Value} {out : List Int} {T : Role → Prop}
theorem SeenAt.lt (h : SeenAt w mb seen) : mb < w.heap.size := by
  obtain ⟨kvs, h1, _⟩ := h
  exact h1.lt
theorem Side.move (h : Side R0 w0 R w p s mb seen v6 out) (hS : SolverAt w' R' p s') (hM : SMov T R w R' w') (hT : ∀ r, T r → LearnT r) : Side R0 w0 R' w' p s' mb seen v6 out := by
  have no : ∀ {b : Nat}, R b = none → ¬ ∃ r, R b = some r ∧ T r := fun hb ⟨r, h1, _⟩ => by rw [hb] at h1; cases h1
  obtain ⟨kvs, h1, h2⟩ := h.seen
  exact ⟨hS, h.mov.trans (hM.mono hT), ⟨kvs, h1.frm hM.1 (no h.mbn), h2⟩, hM.out h1.lt h.mbn, h.mbB, h.row.frm hM.1 fun g hg => no (h.own g hg).1, fun g hg => ⟨hM.out (h.row.lt g hg) (h.own g hg).1, (h.own g hg).2⟩⟩
theorem Side.frm0 (h : Side R0 w0 R w p s mb seen v6 out) (hf : Frm (fun _ => False) w w') : Side R0 w0 R w' p s mb seen v6 out := h.move (h.sol.frm0 hf) (SMov.of0 (T := LearnT) hf) fun _ h => h
theorem Side.see {kvs : List (Int × Bool)} (h : Side R0 w0 R w p s mb seen v6 out) (h2 : ∀ k, (mget kvs k).getD false = decide (k ∈ seen)) {k : Int} (hm : MapAt w' mb iI Value.bool (mput kvs k true)) (hg : w.grownBy w' (some mb)) : Side R0 w0 R w' p s mb (k :: seen) v6 out := by
  have hf := Frm.of_grown hg
  refine ⟨h.sol.frm hf fun b r hb e => ?_, ⟨h.mov.1.trans hf fun x hx e => ?_, h.mov.2⟩, SeenAt.put h2 hm, h.mbn, h.mbB, h.row.frm hf fun g hg e => ?_, h.own⟩
  · cases e; rw [h.mbn] at hb; cases hb
  · cases e; have := h.mbB; omega
  · cases e; exact (h.own _ hg).2.2 rfl
/-- One more behind what comes out. -/
theorem Side.put {m : Int} {o : Obj} {g7 n7 cap7 : Nat} (h : Side R0 w0 R w p s mb seen v6 out) (hrow : Row w' 3 iI (.slice (some ⟨g7, 0, none⟩) n7 cap7) (out ++ [m])) (hfr : Frm (fun b => v6.ownBlock = some b) (w.alloc o) w') (hg : v6.ownBlock = some g7 ∨ g7 = w.heap.size + 1) : Side R0 w0 R w' p s mb seen (.slice (some ⟨g7, 0, none⟩) n7 cap7) (out ++ [m]) := by
  have ha := h.frm0 (frm_alloc w o)
  have hmb := h.seen.lt
  have hg' : R g7 = none ∧ w0.heap.size ≤ g7 ∧ g7 ≠ mb := by
    rcases hg with e | e
    · exact h.own g7 e
    · obtain ⟨_, _, _, _, _, _, _, _, _, H⟩ := h.sol
      have h1 := h.mov.1.size
      exact ⟨none_of H (by omega), by omega, by omega⟩
  refine ⟨ha.sol.frm hfr fun b r hb e => ?_, ⟨ha.mov.1.trans hfr fun x hx e => ?_, ha.mov.2⟩, ?_, h.mbn, h.mbB, hrow, fun g e => ?_⟩
  · rw [(h.own b e).1] at hb; cases hb
  · have := (h.own x e).2.1; omega
  · obtain ⟨kvs, h1, h2⟩ := ha.seen
    exact ⟨kvs, h1.frm hfr fun e => (h.own mb e).2.2 rfl, h2⟩
  · cases e; exact hg'
/-- One of what comes out written. -/
theorem Side.set {g n c i : Nat} {m : Int} (h : Side R0 w0 R w p s mb seen (.slice (some ⟨g, 0, none⟩) n c) out) (hi : i < out.length) : Side R0 w0 R (w.setCell ⟨g, i, none⟩ (.int .i64 m)) p s mb seen (.slice (some ⟨g, 0, none⟩) n c) (out.set i m) := by
  have hg := h.own g rfl
  have hf : Frm (fun b => b = g) w (w.setCell ⟨g, i, none⟩ (.int .i64 m)) := (Frm.refl (fun b => b = g) w).set (p := ⟨g, i, none⟩) (.inl rfl) _
  refine ⟨h.sol.frm hf fun b r hb e => ?_, ⟨h.mov.1.trans hf fun x hx e => ?_, h.mov.2⟩, ?_, h.mbn, h.mbB, row_set h.row i hi m, h.own⟩
  · rw [e, hg.1] at hb; cases hb
  · have := hg.2.1; omega
  · obtain ⟨kvs, h1, h2⟩ := h.seen
    exact ⟨kvs, h1.frm hf fun e => hg.2.2 e.symm, h2⟩
end
end SaW
end Go.Proofs.Ytfpjfogddepbkaa
