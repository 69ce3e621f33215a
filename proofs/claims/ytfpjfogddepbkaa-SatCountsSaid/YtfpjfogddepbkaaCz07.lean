/- All that follows, walked: spread. -/
import Derived.Test.YtfpjfogddepbkaaCz06
set_option linter.unusedSimpArgs false
set_option linter.unusedVariables false
namespace Go.Proofs.Ytfpjfogddepbkaa
open Go.RowKit Go.Mem Go.Sat
namespace SaW
def AnyT (_ : Role) : Prop := True
def InT (n : Int) (r : Role) : Prop := r ≠ .wrow n
theorem SMov.any {T : Role → Prop} {R R' : Nat → Option Role} {w w' : World} (h : SMov T R w R' w') : SMov AnyT R w R' w' := h.mono fun _ _ => trivial
/-- What spread hands back. -/
def SpreadPost (R : Nat → Option Role) (w : World) (p : Nat) (res : Option Nat) (s' : St) (e : Ending) (w' : World) : Prop := ∃ A R', e = .returned (.pointer A) ∧ ClAt R' A res ∧ SolverAt w' R' p s' ∧ SMov AnyT R w R' w'
section
variable {w : World} {R : Nat → Option Role} {p : Nat} {s s' : St}
/-- The literals kept so far: their row, and whose blocks it holds. -/
structure Left (B : Nat) (Ri : Nat → Option Role) (n : Int) (w' : World) (v5 : Value) (bl lf : List Nat) : Prop where
  row : WRow w' 58 ptr v5 bl
  bls : Bls Ri bl lf
  live : ∀ g, Go.Mem.live v5 = some g → Ri g = none ∧ B ≤ g
  own : ∀ g, v5.ownBlock = some g → (Ri g = none ∧ B ≤ g ∧ g < w'.heap.size) ∨ Ri g = some (.wrow n)
theorem Left.move {B : Nat} {Ri R' : Nat → Option Role} {n : Int} {w' w'' : World} {v5 : Value} {bl lf : List Nat} (h : Left B Ri n w' v5 bl lf) (hM : SMov (InT n) Ri w' R' w'') : Left B R' n w'' v5 bl lf := by
  refine ⟨h.row.frm hM.1 fun g hg => ?_, h.bls.mono hM.2.1, fun g hg => ?_, fun g hg => ?_⟩
  · rintro ⟨r, h1, h2⟩
    rcases h.own g hg with ⟨h3, _⟩ | h3
    · rw [h3] at h1; cases h1
    · rw [h3] at h1; cases h1; exact h2 rfl
  · rcases h.own g (live_own hg) with ⟨h3, _, h4⟩ | h3
    · exact ⟨hM.out h4 h3, (h.live g hg).2⟩
    · rw [(h.live g hg).1] at h3; cases h3
  · rcases h.own g hg with ⟨h3, h5, h4⟩ | h3
    · exact .inl ⟨hM.out h4 h3, h5, Nat.lt_of_lt_of_le h4 hM.1.size⟩
    · exact .inr (hM.2.1 _ _ h3)
theorem Left.put {Ri R0 : Nat → Option Role} {n : Int} {w2 w3 w7 : World} {p : Nat} {s1 : St} {VA : Option Addr} {m vc : Nat} {bl lf : List Nat} {o : Obj} {g7 n7 cap7 b c : Nat} (h : Left w2.heap.size Ri n w3 (.slice VA m vc) bl lf) (hS : SolverAt w3 Ri p s1) (hM : SMov (InT n) R0 w2 Ri w3) (hb : Ri b = some (.cl c))
    (hrow : Row w7 58 ptr (.slice (some ⟨g7, 0, none⟩) n7 cap7) (bl ++ [b])) (hfr : Frm (fun b => Go.Mem.live (.slice VA m vc) = some b) (w3.alloc o) w7) (hg : Go.Mem.live (.slice VA m vc) = some g7 ∨ g7 = (w3.alloc o).heap.size) (hlt : g7 < w7.heap.size) :
    Left w2.heap.size Ri n w7 (.slice (some ⟨g7, 0, none⟩) n7 cap7) (bl ++ [b]) (lf ++ [c]) ∧ SolverAt w7 Ri p s1 ∧ SMov (InT n) R0 w2 Ri w7 := by
  have hff := (frm_alloc w3 o)
  obtain ⟨ids, vv, hv, pv, lv, tv, mv, bm, kvs, H⟩ := hS
  have H1 := H.frm0 hff
  have hg' : Ri g7 = none ∧ w2.heap.size ≤ g7 := by
    rcases hg with hg | hg
    · exact h.live g7 hg
    · refine ⟨none_of H1 (by omega), ?_⟩
      have h1 := hM.1.size
      have h2 := hff.size
      omega
  refine ⟨⟨.inl hrow, h.bls.snoc hb, fun g e => ?_, fun g e => by cases e; exact .inl ⟨hg'.1, hg'.2, hlt⟩⟩, ⟨_, _, _, _, _, _, _, _, _, H1.frm hfr fun q r hq e => ?_⟩, (hM.1.trans ((hff.mono (T := fun b => Go.Mem.live (.slice VA m vc) = some b) fun _ _ h => h.elim).trans hfr (fun _ _ h => h)) (fun x hx e => ?_)), hM.2⟩
  · have := live_own e
    cases this
    exact hg'
  · rw [(h.live q e).1] at hq; cases hq
  · have := (h.live x e).2
    omega
theorem Left.app {Ri R0 : Nat → Option Role} {n : Int} {w2 w3 w7 : World} {p : Nat} {s1 : St} {v5 v' : Value} {bl lf b2 l2 : List Nat} (h : Left w2.heap.size Ri n w3 v5 bl lf) (hlv : ∀ g, v5.ownBlock = some g → Go.Mem.live v5 = some g) (hS : SolverAt w3 Ri p s1) (hM : SMov (InT n) R0 w2 Ri w3) (hb : Bls Ri b2 l2)
    (hrow : Row w7 58 ptr v' (bl ++ b2)) (hfr : Frm (fun b => v5.ownBlock = some b) w3 w7) (hg : ∀ g, v'.ownBlock = some g → v5.ownBlock = some g ∨ g = w3.heap.size) :
    Left w2.heap.size Ri n w7 v' (bl ++ b2) (lf ++ l2) ∧ SolverAt w7 Ri p s1 ∧ SMov (InT n) R0 w2 Ri w7 := by
  obtain ⟨ids, vv, hv, pv, lv, tv, mv, bm, kvs, H⟩ := hS
  have hg' : ∀ g, v'.ownBlock = some g → Ri g = none ∧ w2.heap.size ≤ g := fun g e => by
    rcases hg g e with hg | hg
    · exact h.live g (hlv g hg)
    · exact ⟨none_of H (by omega), by have h1 := hM.1.size; omega⟩
  refine ⟨⟨.inl hrow, h.bls.app hb, fun g e => hg' g (live_own e), fun g e => .inl ⟨(hg' g e).1, (hg' g e).2, hrow.lt g e⟩⟩, ⟨_, _, _, _, _, _, _, _, _, H.frm hfr fun q r hq e => ?_⟩, hM.1.trans hfr (fun x hx e => ?_), hM.2⟩
  · rw [(h.live q (hlv q e)).1] at hq; cases hq
  · have := (h.live x (hlv x e)).2
    omega
theorem hlive {g n c : Nat} (hn : 0 < n) (hc : n ≤ c) : ∀ q, (Value.slice (some ⟨g, 0, none⟩) n c).ownBlock = some q → Go.Mem.live (.slice (some ⟨g, 0, none⟩) n c) = some q := by
  intro q h
  cases c with
  | zero => omega
  | succ c => exact h
theorem sees_tail {w : World} {g i len wc : Nat} {bs : List Nat} (hl : bs.length = len) (hcap : len ≤ wc) (hi : i + 1 ≤ len) (hm : wc ≤ maxLen) (hc : ∀ j y, bs[j]? = some y → w.cell? ⟨g, j, none⟩ = some (ptr y)) : Sees w ptr (.slice (if wc = i + 1 then some ⟨g, 0, none⟩ else some ⟨g, i + 1, none⟩) (len - (i + 1)) (wc - (i + 1))) (bs.drop (i + 1)) := by
  have hlen : (bs.drop (i + 1)).length = len - (i + 1) := by rw [List.length_drop, hl]
  by_cases he : wc = i + 1
  · rw [if_pos he]
    have h0 : len - (i + 1) = 0 := by omega
    have hn : bs.drop (i + 1) = [] := List.eq_nil_of_length_eq_zero (by omega)
    rw [hn, h0]
    exact .inr ⟨g, 0, _, rfl, Nat.zero_le _, by omega, fun j y hy => by simp at hy⟩
  · rw [if_neg he]
    refine .inr ⟨g, i + 1, _, by rw [hlen], by rw [hlen]; omega, by omega, fun j y hy => ?_⟩
    rw [List.getElem?_drop] at hy
    exact hc _ _ hy
theorem wrow_max {α : Type} {w : World} {e : TypeId} {enc : α → Value} {A : Option Addr} {n c : Nat} {l : List α} (h : WRow w e enc (.slice A n c) l) : c ≤ maxLen := by
  rcases h with h | ⟨_, g, h⟩
  · rcases h.shape with ⟨e1, _⟩ | ⟨_, _, e1, _, _, h1, _⟩
    · injection e1 with ea eb ec; omega
    · injection e1 with ea eb ec; omega
  · injection h with ea eb ec; omega
/-- What is kept becomes the watchers. -/
theorem Left.finish {Ri R0 : Nat → Option Role} {n : Int} {w2 w3 w4 : World} {p : Nat} {s1 : St} {v5 : Value} {bl lf : List Nat} {ids : List Nat} {vv hv pv lv tv mv : Value} {bm : Nat} {kvs : List (Int × Value)} (h : Left w2.heap.size Ri n w3 v5 bl lf) (H : SRep w3 Ri p s1 ids vv hv pv lv tv mv bm kvs) (hM : SMov (InT n) R0 w2 Ri w3) (hm : MapAt w4 bm iI vid (mput kvs n v5)) (hg : w3.grownBy w4 (some bm)) :
    ∃ R', SolverAt w4 R' p { s1 with watches := mput s1.watches n lf } ∧ SMov AnyT R0 w2 R' w4 := by
  obtain ⟨e1, e2⟩ := H.of_bls h.bls
  have hf : Frm (fun b => Ri b = some .map) w3 w4 := (Frm.of_grown hg).mono fun b _ e => by cases e; exact H.rmap
  have hrow : WRow w4 58 (encC ids) v5 lf := wrow_ptrs.2 (by
    rw [← e1]
    refine h.row.frm hf fun g e => ?_
    rcases h.own g e with ⟨h3, _⟩ | h3
    · rw [h3]; exact fun e => by cases e
    · rw [h3]; exact fun e => by cases e)
  have hM4 : SMov AnyT R0 w2 Ri w4 := hM.any.trans ⟨hf.mono fun b _ hb => ⟨_, hb, trivial⟩, fun _ _ h => h, fun _ h => .inl h⟩
  have same : (∀ g, v5.ownBlock = some g → Ri g = some (.wrow n)) → ∃ R', SolverAt w4 R' p { s1 with watches := mput s1.watches n lf } ∧ SMov AnyT R0 w2 R' w4 := fun hu =>
    ⟨Ri, ⟨_, _, _, _, _, _, _, _, _, H.put_watch (R' := Ri) (hf.mono fun _ _ h => .inr h) hm hrow (fun _ _ h => h) (fun _ _ h => .inl h) hu e2⟩, hM4⟩
  cases ho : v5.ownBlock with
  | none => exact same fun g e => by rw [ho] at e; cases e
  | some g =>
    rcases h.own g ho with ⟨hn, hge, hlt⟩ | hn
    · have hgr : Ri g = none ∨ Ri g = some (.wrow n) := .inl hn
      have hlt4 := Nat.lt_of_lt_of_le hlt hf.size
      refine ⟨upd Ri g (.wrow n), ⟨_, _, _, _, _, _, _, _, _, H.put_watch (R' := upd Ri g (.wrow n)) (hf.mono fun _ _ h => .inr h) hm hrow (fun b r hb => upd_old hb hgr) (fun b r hb => ?_) (fun g' e => by rw [ho] at e; cases e; exact upd_at _ _ _) e2⟩, hM4.1, fun b r hb => upd_old (hM4.2.1 b r hb) hgr, fun b hb => ?_⟩
      · unfold upd at hb
        split at hb
        · rename_i e; subst e; cases hb; exact .inr ⟨rfl, hlt4⟩
        · exact .inl hb
      · unfold upd at hb
        split at hb
        · rename_i e; subst e; exact .inr hge
        · exact hM4.2.2 b hb
    · exact same fun g' e => by rw [ho] at e; cases e; exact hn
def OutInv (R : Nat → Option Role) (w : World) (p : Nat) (res : Option Nat) (s' : St) (k : Nat) (w' : World) : Prop := ∃ sj Rj, spreadF k sj = some (res, s') ∧ SolverAt w' Rj p sj ∧ SMov AnyT R w Rj w'
set_option maxRecDepth 100000 in
set_option maxHeartbeats 2000000 in
theorem spread_calls (h : SolverAt w R p s) (k : Nat) (res : Option Nat) (hs : spreadF k s = some (res, s')) : Calls Try.prog 31 #[.pointer (some ⟨p, 0, none⟩)] w (SpreadPost R w p res s') := by
  obtain ⟨i0, hi, hz0, hz1, hz2⟩ := info_parts info_cp
  have HO0 : Hid (OutInv R w p res s' k w) := Lib.hid ⟨s, R, hs, h, SMov.of0 (Frm.refl _ _)⟩
  clear hs h
  go_enter Try.func31, Try.ntmps31
  go_wp2_with fail
  go_loopw [] (fun w' => Hid (∃ k, OutInv R w p res s' k w')) (fun w' => leastK fun k => OutInv R w p res s' k w')
  case atStart => exact Lib.hid ⟨k, HO0.out⟩
  case round =>
    clear HO0
    obtain ⟨hI, hmin⟩ := leastK_spec hrel.out
    obtain ⟨k0, hk0⟩ : ∃ k0, k0 = leastK fun k => OutInv R w p res s' k wr := ⟨_, rfl⟩
    rw [← hk0] at hI hmin ⊢
    have HMIN := Lib.hid hmin
    clear hrel hmin hk0
    obtain ⟨sj, Rj, hsp, hSj, hMj⟩ := hI
    have HSj := Lib.hid hSj
    have HMj := Lib.hid hMj
    obtain ⟨ids, vv, hv, pv, lv, tv, mv, bm, kvs, H⟩ := hSj
    have HS := Lib.hid H
    obtain ⟨_, _, _, c3, _, c5, _, c7, _⟩ := H.cells
    have hzp : ∀ i, wr.frozen? ⟨p, i, none⟩ = false := fun i => blk_free H.box i
    cases k0 with
    | zero => cases hsp
    | succ k0 =>
    unfold spreadF at hsp
    by_cases hht : sj.head < (sj.trail.length : Int)
    · rw [if_pos hht] at hsp
      split at hsp
      case h_1 => cases hsp
      rename_i n hn
      obtain ⟨hd, hhd, hn1, hn2⟩ := nth_get hn
      obtain ⟨gt, tc, rfl, _, _, xt, _⟩ := row_at H.trail hn2
      rw [Option.some.inj ((List.getElem?_eq_getElem hn2).symm.trans hn1)] at xt
      rw [hhd] at c7 hsp
      have hhI : (hd : Int) < (sj.trail.length : Int) := by omega
      have hml := H.trail.sees.len
      have hml2 : sj.trail.length ≤ 9223372036854775807 := hml
      have hw1 : wrap64 ((hd : Int) + 1) = (hd : Int) + 1 := by unfold wrap64; omega
      have HSP := Lib.hid hsp
      have HHD := Lib.hid hhd
      have HML := Lib.hid hml
      clear H hsp hht hn hhd hn1 hn2 hMj hml
      go_wp2_with fail
      go_quiet (fail)
      obtain ⟨w0, hw0⟩ : ∃ w0, w0 = wr.drewN nq := ⟨_, rfl⟩
      rw [← hw0]
      have HF0 : Hid (Frm (fun _ => False) wr w0) := Lib.hid (by rw [hw0]; exact (Frm.refl _ _).drewN _)
      have c3 := frm_cell HF0.out c3
      have c5 := frm_cell HF0.out c5
      have hzp : ∀ i, w0.frozen? ⟨p, i, none⟩ = false := fun i => blk_free (HS.out.frm0 HF0.out).box i
      have c7' := frm_cell HF0.out c7
      have xt := frm_cell HF0.out xt
      clear hw0 c7
      go_wp2_with fail
      go_quiet (fail)
      obtain ⟨w1, hw1⟩ : ∃ w1, w1 = w0.drewN nq := ⟨_, rfl⟩
      rw [← hw1]
      have HF1 : Hid (Frm (fun _ => False) w0 w1) := Lib.hid (by rw [hw1]; exact (Frm.refl _ _).drewN _)
      have c3 := frm_cell HF1.out c3
      have c7 := frm_cell HF1.out c7'
      have HF2 := Lib.hid (HF0.out.trans HF1.out fun _ _ => id)
      have hzp : ∀ i, w1.frozen? ⟨p, i, none⟩ = false := fun i => blk_free (HS.out.frm0 HF2.out).box i
      obtain ⟨HH, HHM⟩ := (HS.out.frm0 HF2.out).tell_head ((hd : Int) + 1)
      have hlk := lookup_run keyInt Try.underlying46 zeroL HH.map n false
      simp only [Bool.false_eq_true, if_false] at hlk
      obtain ⟨hwr, hwo, hwc⟩ : WRow (w1.setCell ⟨p, 7, none⟩ (.int .i64 ((hd : Int) + 1))) 58 (encC ids) (mval nilS vid kvs n) (Sat.watched sj n) ∧ (∀ g, (mval nilS vid kvs n).ownBlock = some g → Rj g = some (.wrow n)) ∧ ∀ c ∈ Sat.watched sj n, c < sj.cls.length := HH.row_of n
      obtain ⟨WA, wc, hwv, hwa, hwl, hwcell⟩ := hwr.slice
      rw [hwv] at hlk
      have HWV := Lib.hid hwv
      have HWR := Lib.hid hwr
      have HHH := Lib.hid HH
      have HM2 := Lib.hid ((HMj.out.trans (SMov.of0 HF2.out)).trans HHM.any)
      have hwl63 : (Sat.watched sj n).length ≤ 9223372036854775807 := hwr.len
      have HWO := Lib.hid hwo
      have HWC := Lib.hid hwc
      have HWA := Lib.hid hwa
      have HWL := Lib.hid hwl
      clear c5 xt hw1 c7' HH HHM hwr hwo hwc hwv hwa hwl hwcell
      go_wp2_with fail
      obtain ⟨l, hl⟩ : ∃ l, l = Sat.watched sj n := ⟨_, rfl⟩
      obtain ⟨sH, hsH⟩ : ∃ sH, sH = ({ sj with head := (hd : Int) + 1 } : St) := ⟨_, rfl⟩
      obtain ⟨w2, hw2⟩ : ∃ w2, w2 = w1.setCell ⟨p, 7, none⟩ (.int .i64 ((hd : Int) + 1)) := ⟨_, rfl⟩
      rw [← hw2] at HHH HM2 HWR
      rw [← hsH] at HHH
      rw [← hl] at HWR HWV HWC HWL hwl63
      have hspo := HSP.out
      rw [← hsH, ← hl] at hspo
      have hcls : sH.cls = sj.cls := by rw [hsH]
      rw [← hcls] at HWC
      obtain ⟨wres, hwres⟩ : ∃ wres, wres = wakeF n sH [] l := ⟨_, rfl⟩
      rw [← hwres] at hspo
      have HSP2 := Lib.hid hspo
      have HWRES := Lib.hid hwres
      obtain ⟨bs, hbs⟩ : ∃ bs, bs = ptrs ids l := ⟨_, rfl⟩
      have HBL : Hid (Bls Rj bs l) := Lib.hid (by rw [hbs]; exact HHH.out.bls HWC.out)
      have HCB : Hid (∀ j y, bs[j]? = some y → ∃ g, WA = some ⟨g, 0, none⟩ ∧ Rj g = some (.wrow n) ∧ w2.cell? ⟨g, j, none⟩ = some (ptr y)) := by
        refine Lib.hid fun j y hy => ?_
        rw [hbs] at hy
        unfold ptrs at hy
        rw [List.getElem?_map] at hy
        obtain ⟨x, hx, rfl⟩ := Option.map_eq_some_iff.1 hy
        have hwr := HWR.out
        rw [HWV.out] at hwr
        obtain ⟨A', c', e1, _, _, hc⟩ := hwr.slice
        injection e1 with ea eb ec
        obtain ⟨g, hg1, _, hg3⟩ := hc j x hx
        exact ⟨g, ea.trans hg1, HWO.out g (by rw [HWV.out, ea, hg1]; rfl), hg3⟩
      have HCELLS : Hid (∀ i x, l[i]? = some x → ∃ g b, WA = some ⟨g, 0, none⟩ ∧ Rj g = some (.wrow n) ∧ w2.cell? ⟨g, i, none⟩ = some (.pointer (some ⟨b, 0, none⟩)) ∧ Rj b = some (.cl x)) := by
        refine Lib.hid fun i x hx => ?_
        have hl := HBL.out.len
        have hi := (List.getElem?_eq_some_iff.1 hx).1
        obtain ⟨b, hb⟩ : ∃ b, bs[i]? = some b := ⟨_, List.getElem?_eq_getElem (by omega)⟩
        obtain ⟨g, h1, h2, h3⟩ := HCB.out i b hb
        exact ⟨g, b, h1, h2, h3, HBL.out.get hb hx⟩
      have HWCAP : Hid (l.length ≤ wc) := HWL
      have HWMAX : Hid (wc ≤ maxLen) := Lib.hid (by have h1 := HWR.out; rw [HWV.out] at h1; exact wrow_max h1)
      have HLEFT : Hid (Left w2.heap.size Rj n w2 (.slice WA 0 0) [] []) := by
        refine Lib.hid ⟨?_, .nil, fun g hg => (by cases WA <;> cases hg), fun g hg => ?_⟩
        · cases hWA : WA with
          | none => exact .inl (Row.nil _ _ _)
          | some a =>
            obtain ⟨b, rfl⟩ := HWA.out a hWA
            exact .inr ⟨rfl, b, rfl⟩
        · refine .inr (HWO.out g ?_)
          rw [HWV.out]
          cases WA with
          | none => cases hg
          | some a => exact hg
      have HS2 : Hid (SolverAt w2 Rj p sH) := Lib.hid ⟨_, _, _, _, _, _, _, _, _, HHH.out⟩
      rw [← hw2, ← hl]
      have hlI : (0 : Int) ≤ (l.length : Int) := by omega
      clear hwres hspo hcls hbs hsH hl hw2 hlk hzp c3 c7 HSP HWR HWV HWC HWA HHH HS HSj HMj HHD HF0 HF1 HF2 hw1
      go_loopw [5, 45] (fun v5 v45 w' => ∃ i : Nat, v45 = .int .i64 i ∧ i ≤ l.length ∧ ∃ lf bl si Ri, Hid (wakeF n si lf (l.drop i) = wres) ∧ Hid (SolverAt w' Ri p si) ∧ Hid (SMov (InT n) Rj w2 Ri w') ∧ Hid (Left w2.heap.size Ri n w' v5 bl lf)) (fun _ v45 _ => l.length - (intOf v45).toNat)
      case atStart => exact ⟨0, rfl, by omega, [], [], sH, Rj, Lib.hid HWRES.out.symm, HS2, Lib.hid (SMov.of0 (Frm.refl _ _)), HLEFT⟩
      case round =>
        obtain ⟨i, rfl, hil, lf, bl, si, Ri, HWi, HSi, HMi, HLi⟩ := hrel
        clear HS2 HLEFT HWRES
        obtain ⟨VA, vc, hv5, _, _, _⟩ := HLi.out.row.slice
        subst hv5
        by_cases hin : i < l.length
        · have hiI : (i : Int) < (l.length : Int) := by omega
          obtain ⟨c, hc⟩ : ∃ c, l[i]? = some c := ⟨_, List.getElem?_eq_getElem hin⟩
          obtain ⟨g, b, rfl, hg1, hg2, hb1⟩ := HCELLS.out i c hc
          have hgb := HMi.out.1.block g (World.block_lt_of_cell? _ _ hg2) (fun ⟨r, h1, h2⟩ => by rw [hg1] at h1; cases h1; exact h2 rfl)
          have xi : wr.cell? ⟨g, i, none⟩ = some (.pointer (some ⟨b, 0, none⟩)) := by rw [← hg2]; simp only [World.cell?, hgb]
          have HBJ := Lib.hid hb1
          have HB : Hid (Ri b = some (.cl c)) := Lib.hid (HMi.out.2.1 _ _ hb1)
          have e := HWi.out
          rw [List.drop_eq_getElem_cons hin, Option.some.inj ((List.getElem?_eq_getElem hin).symm.trans hc)] at e
          unfold wakeF at e
          split at e
          case isTrue => have := HSP2.out; rw [← e] at this; cases this
          rename_i hroom
          have Hroom : Hid (lf.length + (l.length - (i + 1)) ≤ 1099511627776) := Lib.hid (by have := room_of (n := lf.length + (l.drop (i + 1)).length) (by simpa using hroom); rw [List.length_drop] at this; exact this)
          split at e
          case h_1 => have := HSP2.out; rw [← e] at this; cases this
          case h_2 =>
            rename_i s1 hmv
            have HE := Lib.hid e
            have HMV := Lib.hid hmv
            clear e hmv hroom hg1 hg2 hb1 hgb hc
            go_wp2_with fail
            refine (moved_calls HSi.out c b n HB.out true HMV.out).mono ?_
            rintro e3 w3 ⟨rfl, R3, HS3, HM3⟩
            have hm3 := HM3.mono (T' := InT n) fun r hr => by rcases hr with rfl | rfl | ⟨k, hk, rfl⟩ <;> intro e <;> cases e; exact hk rfl
            have HM4 := Lib.hid (HMi.out.trans hm3)
            have HL4 := Lib.hid (HLi.out.move hm3)
            have HS4 := Lib.hid HS3
            clear HM3 HS3 hm3 HMi HLi HSi xi HB
            dsimp only
            go_wp2
            go_roundw
            case rel => exact ⟨i + 1, rfl, hin, lf, bl, s1, R3, HE, HS4, HM4, HL4⟩
            case measure => simp only [intOf]; omega
          case h_3 =>
            rename_i s1 hmv
            split at e
            case h_1 => have := HSP2.out; rw [← e] at this; cases this
            rename_i f hf
            split at e
            case h_1 => have := HSP2.out; rw [← e] at this; cases this
            rename_i v hv
            have HMV := Lib.hid hmv
            have HFV := Lib.hid hv
            have HFF := Lib.hid hf
            clear hmv hroom hg1 hg2 hb1 hgb hc hv hf
            have HE := Lib.hid e
            clear e
            go_wp2_with fail
            refine (moved_calls HSi.out c b n HB.out false HMV.out).mono ?_
            rintro e3 w3 ⟨rfl, R3, HS3, HM3⟩
            have hm3 := HM3.mono (T' := InT n) fun r hr => by rcases hr with rfl | rfl | ⟨k, hk, rfl⟩ <;> intro e <;> cases e; exact hk rfl
            have HM4 := Lib.hid (HMi.out.trans hm3)
            have HL4 := Lib.hid (HLi.out.move hm3)
            have HS4 := Lib.hid HS3
            have HB4 := Lib.hid (hm3.2.1 _ _ HB.out)
            clear HM3 HS3 hm3 HMi HLi HSi xi HB
            dsimp only
            have hlen5 := HL4.out.bls.len
            have HLEN := Lib.hid hlen5
            clear hlen5
            go_wp2_with (at_builtin; refine (wpList_append_live rfl _ _ 47 rfl 58 i0 (.pointer none) 8 Try.underlying47 hi hz0 hz1 hz2 rfl (enc := ptr) (fun _ => rfl) (.slice VA bl.length vc) bl [b] rfl (HL4.out.row.frm (frm_alloc w3 (.cells #[.pointer (some ⟨b, 0, none⟩)] 58)) fun _ _ => id) ⟨w3.heap.size, 0, none⟩ 1 rfl ?c1 (by simp) ?c2 ?c3 ?_))
            case c1 => intro j y hj; match j, hj with | 0, hj => (simp at hj; subst hj; exact blk_cell (blk_new _) 0) | j + 1, hj => (simp at hj)
            case c2 => have := Hroom.out; have := HLEN.out; have : maxLen = 9223372036854775807 := rfl; simp only [List.length_cons, List.length_nil]; omega
            case c3 => have := Hroom.out; have := HLEN.out; simp only [List.length_cons, List.length_nil]; omega
            intro g7 cap7 w7 hrow hfr hg hlt
            obtain ⟨n7, hn7⟩ : ∃ n7, n7 = bl.length + 1 := ⟨_, rfl⟩
            rw [← hn7] at hrow ⊢
            obtain ⟨hl5, hs5, hm5⟩ := HL4.out.put HS4.out HM4.out HB4.out hrow hfr (hg.imp id fun e => by rw [e]; simp) hlt
            have HL5 := Lib.hid hl5
            have HS5 := Lib.hid hs5
            have HM5 := Lib.hid hm5
            obtain ⟨ids5, vv5, hv5, pv5, lv5, tv5, mv5, bm5, kvs5, H5⟩ := hs5
            obtain ⟨x5, v5, hcl5, hblk5, hrow5, hrole5⟩ := H5.cl_at HB4.out
            have hff := HFF.out
            rw [hcl5] at hff
            simp only [Option.bind_some] at hff
            have hl0 : 0 < x5.lits.length := by cases hx : x5.lits <;> rw [hx] at hff; cases hff; simp
            obtain ⟨gl, cl, rfl, _, hml5, xl, _⟩ := row_at hrow5 hl0
            have hx0 : x5.lits[0] = f := by
              rw [List.head?_eq_getElem?, List.getElem?_eq_getElem hl0] at hff
              exact Option.some.inj hff
            rw [hx0] at xl
            have b0 : w7.cell? ⟨b, 0, none⟩ = some (.slice (some ⟨gl, 0, none⟩) x5.lits.length cl) := blk_cell hblk5 0
            have hl0I : (0 : Int) < (x5.lits.length : Int) := by omega
            have HXF := Lib.hid hx0
            clear hn7 hrow hfr hg hlt hl5 hm5 H5 hcl5 hblk5 hrow5 hrole5 hff hml5 hx0 HL4 HS4 HM4 HMV
            go_wp2_with fail
            refine (value_calls HS5.out f v HFV.out).mono ?_
            rintro e8 w8 ⟨rfl, hf8⟩
            have HF8 := Lib.hid hf8
            have b0 := frm_cell hf8 b0
            have xl := frm_cell hf8 xl
            clear hf8
            dsimp only
            by_cases hv1 : v = 1
            · have e1 : (v == 1) = true := by simpa using hv1
              have e := HE.out
              rw [if_pos hv1] at e
              have HE2 := Lib.hid e
              clear e hv1 b0 xl
              go_wp2
              go_roundw
              case rel => exact ⟨i + 1, rfl, hin, lf ++ [c], bl ++ [b], s1, R3, HE2, Lib.hid (HS5.out.frm0 HF8.out), Lib.hid (HM5.out.trans (SMov.of0 HF8.out)), Lib.hid (HL5.out.move (SMov.of0 HF8.out))⟩
              case measure => simp only [intOf]; omega
            · have e1 : (v == 1) = false := by simpa using hv1
              have e := HE.out
              rw [if_neg hv1] at e
              go_wp2_with fail
              refine (value_calls (HS5.out.frm0 HF8.out) f v HFV.out).mono ?_
              rintro e9 w9 ⟨rfl, hf9⟩
              have HF9 := Lib.hid (frm_then HF8.out hf9)
              have b0 := frm_cell hf9 b0
              have xl := frm_cell hf9 xl
              clear hf9 HF8
              dsimp only
              have HS9 := Lib.hid (HS5.out.frm0 HF9.out)
              have HM9 := Lib.hid (HM5.out.trans (SMov.of0 HF9.out))
              have HL9 := Lib.hid (HL5.out.move (SMov.of0 HF9.out))
              clear HS5 HM5 HL5 HF9
              by_cases hv2 : v = -1
              · have e2 : (v == -1) = true := by rw [hv2]; rfl
                rw [if_pos hv2] at e
                have hsp := HSP2.out
                rw [← e] at hsp
                have HSPN := Lib.hid hsp
                clear e hv1 hv2 b0 xl hsp
                obtain ⟨ids6, vv6, hv6, pv6, lv6, tv6, mv6, bm6, kvs6, H6⟩ := HS9.out
                obtain ⟨_, _, _, c3, _⟩ := H6.cells
                have HS6 := Lib.hid H6
                have hcap7 := row_cap2 (HL9.out.row.elim id fun h => absurd h.1 (by simp))
                have Hcap7 := Lib.hid hcap7
                have HR9 := Lib.hid (HL9.out.row.elim id fun h => absurd h.1 (by simp))
                have hiw : (i : Int) + 1 ≤ (l.length : Int) := by omega
                have hiw2 : (i : Int) + 1 ≤ (wc : Int) := by have := HWCAP.out; omega
                have hbl := H6.lt p _ H6.rme
                have HN7 : Hid (0 < n7) := Lib.hid (by have := row_cap' HR9.out; simp at this; omega)
                have HBLEN : Hid (bs.length = l.length) := Lib.hid HBL.out.len
                have HGC : Hid (∀ j y, bs[j]? = some y → w9.cell? ⟨g, j, none⟩ = some (ptr y)) := by
                  refine Lib.hid fun j y hy => ?_
                  obtain ⟨g', h1, h2, h3⟩ := HCB.out j y hy
                  cases h1
                  have hb9 := HM9.out.1.block g (World.block_lt_of_cell? _ _ h3) (fun ⟨r, h1, h4⟩ => by rw [h2] at h1; cases h1; exact h4 rfl)
                  rw [← h3]
                  simp only [World.cell?, hb9]
                have HB0 : Hid (R3 b = some (.cl c)) := HB4
                clear H6 hcap7
                go_wp2_with fail
                refine Plan.wp_region_plan [0, 1, 3, 7, 0, 0, 0, 0, 128, 448, 992, 2047] [.mk [0, 1, 2, 3, 4, 5, 6, 7, 8, 9] 10 [0, 1, 2, 3, 4], .mk [] 11 []] [] (by kernel_rfl) (by kernel_rfl) ?_
                simp only [Plan.wayOf, Plan.pickAll, List.getElem?_cons_zero, List.getElem?_cons_succ, List.getD_eq_getElem?_getD, Option.getD_some]
                refine Plan.wpWay_seg ?_
                repeat go_big_quiet_step (fail)
                refine wpQuiet_nil ?_; refine Plan.wpWay_act ?_
                obtain ⟨VT, hVT⟩ : ∃ VT, VT = (if wc = i + 1 then some (⟨g, 0, none⟩ : Addr) else some ⟨g, i + 1, none⟩) := ⟨_, rfl⟩
                rw [← hVT]
                have HVT := Lib.hid hVT
                clear hVT
                refine (wpList_append_sees rfl _ _ 47 rfl 58 i0 (.pointer none) 8 Try.underlying47 hi hz0 hz1 hz2 rfl (enc := ptr) (fun _ => rfl) (.slice (some ⟨g7, 0, none⟩) n7 cap7) (bl ++ [b]) (bs.drop (i + 1)) rfl (HR9.out.frm0 (Frm.refl _ _).drew) _ rfl ?s1 ?c2 ?c3 ?_)
                case s1 => show Sees _ ptr (.slice VT (l.length - (i + 1)) (wc - (i + 1))) _; rw [HVT.out]; exact sees_tail HBLEN.out HWCAP.out hin HWMAX.out (fun j y hy => by rw [show w9.drew.cell? ⟨g, j, none⟩ = w9.cell? ⟨g, j, none⟩ from rfl]; exact HGC.out j y hy)
                case c2 => have := Hroom.out; have := HLEN.out; have := HBLEN.out; have : maxLen = 9223372036854775807 := rfl; simp only [List.length_append, List.length_cons, List.length_nil, List.length_drop]; omega
                case c3 => have := Hroom.out; have := HLEN.out; have := HBLEN.out; simp only [List.length_append, List.length_cons, List.length_nil, List.length_drop]; omega
                intro vq wq hrowq hfrq hgq
                obtain ⟨hl10, hs10, hm10⟩ := (HL9.out.move (SMov.of0 (Frm.refl _ _).drew)).app (hlive HN7.out Hcap7.out) (HS9.out.frm0 (Frm.refl _ _).drew) (HM9.out.trans (SMov.of0 (Frm.refl _ _).drew)) ((HBL.out.drop (i + 1)).mono HM9.out.2.1) hrowq hfrq hgq
                have HL10 := Lib.hid hl10
                have HM10 := Lib.hid hm10
                have hH10 := HS6.out.frm ((Frm.refl _ _).drew.trans hfrq (fun _ _ h => h)) (fun q r hq e => by rw [(HL9.out.live q (hlive HN7.out Hcap7.out q e)).1] at hq; cases hq)
                have HH10 := Lib.hid hH10
                have c3 : wq.cell? ⟨p, 3, none⟩ = some (.map (some bm6)) := hH10.cells.2.2.2.1
                clear hl10 hs10 hm10 hrowq hfrq hgq hH10
                go_wp2_with fail
                refine And.intro ?_ ?_; focus ((iterate 5 (refine Plan.again_cons ?_ ?_; focus (go_big_quiet_step (fail); exact wpQuiet_nil rfl))); exact Plan.again_nil)
                refine Plan.wpWay_seg ?_
                refine wpQuiet_nil ?_; refine Plan.wpWay_act ?_
                refine wpList_update rfl _ _ _ 46 rfl keyInt Try.underlying46 (ev := vid) n vq rfl rfl rfl HH10.out.map ?_
                intro w8 hm8 hg8
                go_simp
                go_wp2_with fail
                refine And.intro Plan.again_nil ?_
                refine Plan.wpWay_last ?_
                refine wpQuiet_nil ?_; refine NoPanic.normal ?_
                obtain ⟨R11, hS11, hM11⟩ := HL10.out.finish HH10.out HM10.out hm8 hg8
                have HS11 := Lib.hid hS11
                have HM11 := Lib.hid (HM2.out.trans hM11)
                have hres := HSPN.out
                simp only [Option.some.injEq, Prod.mk.injEq] at hres
                obtain ⟨rfl, hs1'⟩ := hres
                have hcl := Lib.hid (hM11.2.1 _ _ HBJ.out)
                go_wp2
                go_ret
                exact ⟨_, R11, rfl, ⟨b, rfl, hcl.out⟩, by rw [← hs1']; exact HS11.out, HM11.out⟩
              · have e2 : (v == -1) = false := by simpa using hv2
                rw [if_neg hv2] at e
                cases hst : setF s1 f (some c) with
                | none =>
                  rw [hst] at e
                  have := HSP2.out
                  rw [← e] at this
                  cases this
                | some s2 =>
                  rw [hst] at e
                  have HE2 := Lib.hid e
                  have HST := Lib.hid hst
                  clear e hst hv1 hv2
                  go_wp2_with fail
                  refine (set_calls HS9.out f (some c) (some ⟨b, 0, none⟩) HST.out ⟨b, rfl, HB4.out⟩).mono ?_
                  rintro e10 w10 ⟨rfl, R10, HS10, HM10⟩
                  have hm10 := HM10.mono (T' := InT n) fun r hr => by rcases hr with rfl | rfl | rfl <;> intro e <;> cases e
                  have HM11 := Lib.hid (HM9.out.trans hm10)
                  have HL11 := Lib.hid (HL9.out.move hm10)
                  have HS11 := Lib.hid HS10
                  clear HM10 HS10 hm10 HM9 HL9 HS9 b0 xl
                  dsimp only
                  go_wp2
                  go_roundw
                  case rel => exact ⟨i + 1, rfl, hin, lf ++ [c], bl ++ [b], s2, R10, HE2, HS11, HM11, HL11⟩
                  case measure => simp only [intOf]; omega
        · have hiI : ¬ (i : Int) < (l.length : Int) := by omega
          have e := HWi.out
          rw [List.drop_eq_nil_of_le (by omega)] at e
          simp only [wakeF] at e
          have hsp := HSP2.out
          rw [← e] at hsp
          have HSPN := Lib.hid hsp
          obtain ⟨ids5, vv5, hv5, pv5, lv5, tv5, mv5, bm5, kvs5, H5⟩ := HSi.out
          obtain ⟨_, _, _, c3, _⟩ := H5.cells
          have HS5 := Lib.hid H5
          clear e hsp H5
          go_wp2_with (at_mapUpdate; refine wpList_update rfl _ _ _ 46 rfl keyInt Try.underlying46 (ev := vid) n (.slice VA bl.length vc) rfl rfl rfl HS5.out.map ?_)
          intro w6 hm6 hg6
          obtain ⟨R6, hS6, hM6⟩ := HLi.out.finish HS5.out HMi.out hm6 hg6
          have HI6 : Hid (OutInv R w p res s' k0 w6) := Lib.hid ⟨_, R6, HSPN.out, hS6, HM2.out.trans hM6⟩
          clear hm6 hg6 hS6 hM6 c3 HS5 HSPN HMi HLi HSi HWi HCELLS HCB
          go_wp2
          go_roundw
          case rel => exact Lib.hid ⟨k0, HI6.out⟩
          case measure => exact Nat.lt_succ_of_le ((leastK_spec ⟨k0, HI6.out⟩).2 k0 HI6.out)
    · rw [if_neg hht] at hsp
      cases hsp
      obtain ⟨TA, tc, rfl, htc⟩ := sees_slice H.trail.sees
      have e0 : decide (s'.head < (s'.trail.length : Int)) = false := by simpa using hht
      clear htc H hht
      go_wp2_with fail
      go_quiet (fail)
      go_wp2
      go_ret
      exact ⟨none, Rj, rfl, rfl, HSj.out.frm0 ((Frm.refl _ _).drewN _), HMj.out.trans (SMov.of0 ((Frm.refl _ _).drewN _))⟩
end
end SaW
end Go.Proofs.Ytfpjfogddepbkaa
/- Variables up to a literal's, walked: grow. -/
namespace Go.Proofs.Ytfpjfogddepbkaa
open Go.RowKit Go.Mem Go.Sat
namespace SaW
theorem info_ft : (Try.prog.info? 73).map (fun i => (i.zero, i.size, i.bytes)) = some (some (.agg #[.int .i64 0, .int .i64 0, .pointer none, .int .i64 0, .int .i64 0]), 5, 40) := by kernel_rfl
def GrowT (r : Role) : Prop := r = .vars ∨ r = .heap ∨ r = .place ∨ r = .me
section
variable {w : World} {R : Nat → Option Role} {p : Nat} {s s' : St}
def GrowInv (R : Nat → Option Role) (w : World) (p : Nat) (n : Int) (s' : St) (k : Nat) (w' : World) : Prop := ∃ sj Rj, growF k sj n = some s' ∧ SolverAt w' Rj p sj ∧ SMov GrowT R w Rj w'
set_option maxRecDepth 100000 in
set_option maxHeartbeats 2000000 in
theorem grow_calls (h : SolverAt w R p s) (k : Nat) (n : Int) (hs : growF k s n = some s') : Calls Try.prog 23 #[.pointer (some ⟨p, 0, none⟩), .int .i64 n] w (SPo GrowT R w p (.tuple #[]) s') := by
  obtain ⟨i0, hi, hz0, hz1, hz2⟩ := info_parts info_int
  have hft := info_ft
  obtain ⟨j0, hj, hjj⟩ := Option.map_eq_some_iff.1 hft
  simp only [Prod.mk.injEq] at hjj
  obtain ⟨hy0, hy1, hy2⟩ := hjj
  have HG0 : Hid (GrowInv R w p n s' k w) := Lib.hid ⟨s, R, hs, h, SMov.of0 (Frm.refl _ _)⟩
  clear hs h hft
  go_enter Try.func23, Try.ntmps23
  go_wp2_with fail
  go_loopw [] (fun w' => Hid (∃ k, GrowInv R w p n s' k w')) (fun w' => leastK fun k => GrowInv R w p n s' k w')
  case atStart => exact Lib.hid ⟨k, HG0.out⟩
  case round =>
    clear HG0
    obtain ⟨hI, hmin⟩ := leastK_spec hrel.out
    obtain ⟨k0, hk0⟩ : ∃ k0, k0 = leastK fun k => GrowInv R w p n s' k wr := ⟨_, rfl⟩
    rw [← hk0] at hI hmin ⊢
    have HMIN := Lib.hid hmin
    clear hrel hmin hk0
    obtain ⟨sj, Rj, hsp, hSj, hMj⟩ := hI
    have HSj := Lib.hid hSj
    have HMj := Lib.hid hMj
    obtain ⟨ids, vv, hv, pv, lv, tv, mv, bm, kvs, H⟩ := hSj
    have HS := Lib.hid H
    obtain ⟨c0, _, c2, _⟩ := H.cells
    cases k0 with
    | zero => cases hsp
    | succ k0 =>
    unfold growF at hsp
    split at hsp
    case isTrue => cases hsp
    rename_i hgd
    have hgd' : smlB n = true ∧ roomB sj.vars.length = true ∧ roomB sj.place.length = true := by simpa using hgd
    have HO := Lib.hid (fun w1 => of_calls w1 n (sml_of hgd'.1))
    have HV40 := Lib.hid (room_of hgd'.2.1)
    have HP40 := Lib.hid (room_of hgd'.2.2)
    obtain ⟨VA, vc, rfl, _⟩ := H.vars.slice
    clear hgd hgd' hMj
    by_cases hlt : (sj.vars.length : Int) ≤ ofF n
    · rw [if_pos hlt] at hsp
      have e0 : decide ((sj.vars.length : Int) ≤ ofF n) = true := by simpa using hlt
      obtain ⟨s1, hpu, hgr⟩ := Option.bind_eq_some_iff.1 hsp
      have HPU := Lib.hid hpu
      have HGR := Lib.hid hgr
      clear hsp hpu hgr hlt H
      go_wp2_with fail
      refine Plan.wp_region_plan [0, 1, 3, 7, 15, 0, 32, 127] [.mk [0, 1, 2, 3, 4, 5] 6 [0, 1, 2, 3, 4]] [7] (by kernel_rfl) (by kernel_rfl) ?_
      simp only [Plan.wayOf, Plan.pickAll, List.getElem?_cons_zero, List.getElem?_cons_succ, List.getD_eq_getElem?_getD, Option.getD_some]
      refine Plan.wpWay_seg ?_
      repeat go_big_quiet_step (fail)
      refine wpQuiet_nil ?_; refine Plan.wpWay_act ?_
      go_wp2_with fail
      refine (HO.out _).mono ?_
      rintro e w1 ⟨rfl, hf⟩
      have HF1 := Lib.hid (show Frm (fun _ => False) wr w1 from frm_then (Frm.refl _ _).drew hf)
      have c0 := frm_cell HF1.out c0
      clear hf
      dsimp only
      go_wp2_with fail
      refine And.intro ?_ ?_; focus ((iterate 5 (refine Plan.again_cons ?_ ?_; focus (go_big_quiet_step (fail); exact wpQuiet_nil rfl))); exact Plan.again_nil)
      refine Plan.wpWay_last ?_
      repeat go_big_quiet_step (fail)
      refine wpQuiet_nil ?_; refine NoPanic.normal ?_
      have HS1 := Lib.hid (HS.out.frm0 HF1.out)
      have HM1 := Lib.hid (HMj.out.trans (SMov.of0 HF1.out))
      clear HS HSj HMj HF1 c2
      go_wp2_with (at_builtin; refine wpList_append_srow rfl _ _ 45 rfl 73 j0 (.agg #[.int .i64 0, .int .i64 0, .pointer none, .int .i64 0, .int .i64 0]) 40 Try.underlying45 hj hy0 hy1 hy2 rfl (by decide) (E := encF ids) (.slice VA sj.vars.length vc) sj.vars rfl (HS1.out.vars.frm0 (frm_alloc w1 (.cells #[.int .i64 0, .int .i64 0, .pointer none, .int .i64 0, .int .i64 0] 73))) ⟨w1.heap.size, 0, none⟩ 1 noFact rfl ?c1 ?c2 ?c3 ?_)
      case c1 =>
        intro j u hj
        match j, hj with
        | 0, hj => cases hj; exact blk_cell (blk_new _) 0
        | 1, hj => cases hj; exact blk_cell (blk_new _) 1
        | 2, hj => cases hj; exact blk_cell (blk_new _) 2
        | 3, hj => cases hj; exact blk_cell (blk_new _) 3
        | 4, hj => cases hj; exact blk_cell (blk_new _) 4
        | j + 5, hj => cases hj
      case c2 => have := HV40.out; have : maxLen = 9223372036854775807 := rfl; omega
      case c3 => have := HV40.out; omega
      intro g7 cap7 w7 hrow hfr hg hlt7
      have hfa : Frm (fun _ => False) w1 (w1.alloc (.cells #[.int .i64 0, .int .i64 0, .pointer none, .int .i64 0, .int .i64 0] 73)) := frm_alloc w1 (.cells #[.int .i64 0, .int .i64 0, .pointer none, .int .i64 0, .int .i64 0] 73)
      obtain ⟨HP, HM⟩ := (HS1.out.frm0 hfa).push_vars (x := noFact) hrow hfr (hg.imp id fun h => by rw [h]; simp) hlt7 rfl
      have hnp : ¬ (Value.slice VA sj.vars.length vc).ownBlock = some p := fun e => by have h1 := HS1.out.rvars p e; rw [HS1.out.rme] at h1; cases h1
      have b7 := blk_frm (HS1.out.frm0 hfa).box hfr hnp
      have c0' : w7.cell? ⟨p, 0, none⟩ = some (.slice VA sj.vars.length vc) := blk_cell b7 0
      have z7 : ∀ i, w7.frozen? ⟨p, i, none⟩ = false := fun i => blk_free b7 i
      obtain ⟨PA, pc, hpv, _⟩ := sees_slice HP.place.sees
      subst hpv
      have c2' : (w7.setCell ⟨p, 0, none⟩ (.slice (some ⟨g7, 0, none⟩) (sj.vars.length + 1) cap7)).cell? ⟨p, 2, none⟩ = some (.slice PA sj.place.length pc) := HP.cells.2.2.1
      have HM2 := Lib.hid ((HM1.out.trans (SMov.of0 hfa)).trans (HM.mono fun r hr => hr.elim .inl fun e => .inr (.inr (.inr e))))
      have HP2 := Lib.hid HP
      obtain ⟨R7, hR7⟩ : ∃ R7, R7 = upd Rj g7 .vars := ⟨_, rfl⟩
      rw [← hR7] at HM2 HP2
      clear HP HM hrow hfr hg hlt7 hfa hnp b7 c0 HM1 HS1 hR7
      go_wp2_with (at_builtin; refine wpList_append_row rfl _ _ 26 rfl 3 i0 (.int .i64 0) 8 Try.underlying26 hi hz0 hz1 hz2 rfl (enc := iI) (.slice PA sj.place.length pc) sj.place rfl (HP2.out.place.frm0 (frm_alloc _ (.cells #[.int .i64 (-1)] 3))) ⟨w7.heap.size, 0, none⟩ 1 (-1) rfl ?c1 rfl ?c2 ?c3 ?_)
      case c2 => have := HP40.out; have : maxLen = 9223372036854775807 := rfl; omega
      case c3 => have := HP40.out; omega
      intro g9 cap9 w9 hrow hfr hg hlt9
      obtain ⟨w8, hw8⟩ : ∃ w8, w8 = w7.setCell ⟨p, 0, none⟩ (.slice (some ⟨g7, 0, none⟩) (sj.vars.length + 1) cap7) := ⟨_, rfl⟩
      have hsz : w8.heap.size = w7.heap.size := by rw [hw8]; simp
      rw [← hw8] at hfr HP2 HM2 c2'
      have hfa : Frm (fun _ => False) w8 (w8.alloc (.cells #[.int .i64 (-1)] 3)) := frm_alloc w8 (.cells #[.int .i64 (-1)] 3)
      obtain ⟨HP, HM⟩ := (HP2.out.frm0 hfa).push_place (x := -1) hrow hfr (hg.imp id fun h => by rw [h]; simp; omega) hlt9
      have hnp : ¬ (Value.slice PA sj.place.length pc).ownBlock = some p := fun e => by have h1 := HP2.out.rplace p e; rw [HP2.out.rme] at h1; cases h1
      have b9 := blk_frm (HP2.out.frm0 hfa).box hfr hnp
      have c2'' : w9.cell? ⟨p, 2, none⟩ = some (.slice PA sj.place.length pc) := blk_cell b9 2
      have z9 : ∀ i, w9.frozen? ⟨p, i, none⟩ = false := fun i => blk_free b9 i
      have c0'' : (w9.setCell ⟨p, 2, none⟩ (.slice (some ⟨g9, 0, none⟩) (sj.place.length + 1) cap9)).cell? ⟨p, 0, none⟩ = some (.slice (some ⟨g7, 0, none⟩) (sj.vars.length + 1) cap7) := HP.cells.1
      have HM3 := Lib.hid ((HM2.out.trans (SMov.of0 hfa)).trans (HM.mono fun r hr => hr.elim (fun e => .inr (.inr (.inl e))) fun e => .inr (.inr (.inr e))))
      have HP3 := Lib.hid HP
      obtain ⟨R9, hR9⟩ : ∃ R9, R9 = upd R7 g9 .place := ⟨_, rfl⟩
      rw [← hR9] at HM3 HP3
      have hwl : wrap64 (sj.vars.length : Int) = (sj.vars.length : Int) := by have := HV40.out; unfold wrap64; omega
      have Hwl := Lib.hid hwl
      clear HP HM hrow hfr hg hlt9 hfa hnp b9 c2' c0' z7 HM2 HP2 hR9 hw8 hsz hwl
      go_wp2_with fail
      rw [Hwl.out]
      refine (push_calls (show SolverAt _ R9 p _ from ⟨_, _, _, _, _, _, _, _, _, HP3.out⟩) _ HPU.out).mono ?_
      rintro e10 w10 ⟨rfl, R10, HS10, HM10⟩
      have HI : Hid (GrowInv R w p n s' k0 w10) := Lib.hid ⟨s1, R10, HGR.out, HS10, HM3.out.trans (HM10.mono fun r hr => .inr hr)⟩
      clear HS10 HM10 HM3 HP3 c0'' c2'' z9
      dsimp only
      go_wp2
      go_roundw
      case rel => exact Lib.hid ⟨k0, HI.out⟩
      case measure => exact Nat.lt_succ_of_le ((leastK_spec ⟨k0, HI.out⟩).2 k0 HI.out)
    · rw [if_neg hlt] at hsp
      cases hsp
      have e0 : decide ((s'.vars.length : Int) ≤ ofF n) = false := by simpa using hlt
      clear hlt H
      go_wp2_with fail
      refine Plan.wp_region_plan [0, 1, 3, 7, 15, 0, 32, 127] [.mk [0, 1, 2, 3, 4, 5] 6 [0, 1, 2, 3, 4]] [7] (by kernel_rfl) (by kernel_rfl) ?_
      simp only [Plan.wayOf, Plan.pickAll, List.getElem?_cons_zero, List.getElem?_cons_succ, List.getD_eq_getElem?_getD, Option.getD_some]
      refine Plan.wpWay_seg ?_
      repeat go_big_quiet_step (fail)
      refine wpQuiet_nil ?_; refine Plan.wpWay_act ?_
      go_wp2_with fail
      refine (HO.out _).mono ?_
      rintro e w1 ⟨rfl, hf⟩
      have HF1 := Lib.hid (show Frm (fun _ => False) wr w1 from frm_then (Frm.refl _ _).drew hf)
      have c0 := frm_cell HF1.out c0
      clear hf
      dsimp only
      go_wp2_with fail
      refine And.intro ?_ ?_; focus ((iterate 5 (refine Plan.again_cons ?_ ?_; focus (go_big_quiet_step (fail); exact wpQuiet_nil rfl))); exact Plan.again_nil)
      refine Plan.wpWay_last ?_
      repeat go_big_quiet_step (fail)
      refine wpQuiet_nil ?_; refine NoPanic.normal ?_
      go_wp2
      go_end0
      exact ⟨rfl, Rj, HSj.out.frm0 HF1.out, HMj.out.trans (SMov.of0 HF1.out)⟩
end
end SaW
end Go.Proofs.Ytfpjfogddepbkaa
/- A score raised, walked: used. -/
namespace Go.Proofs.Ytfpjfogddepbkaa
open Go.RowKit Go.Mem Go.Sat
namespace SaW
def UsedT (r : Role) : Prop := r = .vars ∨ r = .heap ∨ r = .place ∨ r = .me
def resc (x : Fact) : Fact := { x with score := x.score / 1048576 }
def vj (l : List Fact) (j : Nat) : List Fact := (l.take j).map resc ++ l.drop j
theorem vj_get {l : List Fact} {j : Nat} (h : j < l.length) : (vj l j)[j]? = some l[j] := by
  unfold vj
  rw [List.getElem?_append_right (by simp; omega)]
  simp
  rw [Nat.min_eq_left (by omega)]
  simp
theorem vj_set {l : List Fact} {j : Nat} (h : j < l.length) : (vj l j).set j (resc l[j]) = vj l (j + 1) := by
  apply List.ext_getElem?
  intro i
  unfold vj
  rw [List.getElem?_set]
  by_cases hij : j = i
  · subst hij
    rw [if_pos rfl, if_pos (by simp; omega), List.getElem?_append_left (by simp; omega)]
    simp [List.getElem?_take, List.getElem?_eq_getElem h]
  · rw [if_neg hij]
    by_cases hlt : i < j
    · rw [List.getElem?_append_left (by simp; omega), List.getElem?_append_left (by simp; omega)]
      simp [List.getElem?_take, hlt, Nat.lt_succ_of_lt hlt]
    · rw [List.getElem?_append_right (by simp; omega), List.getElem?_append_right (by simp; omega)]
      simp only [List.length_map, List.length_take, List.getElem?_drop]
      congr 1
      omega
theorem vj_len (l : List Fact) {j : Nat} (h : j ≤ l.length) : (vj l j).length = l.length := by unfold vj; simp; omega
theorem vj_end (l : List Fact) : vj l l.length = l.map resc := by unfold vj; simp
section
variable {w : World} {R : Nat → Option Role} {p : Nat} {s s' : St}
set_option maxRecDepth 100000 in
set_option maxHeartbeats 2000000 in
theorem used_calls (h : SolverAt w R p s) (v : Int) (hs : usedF s v = some s') : Calls Try.prog 52 #[.pointer (some ⟨p, 0, none⟩), .int .i64 v] w (SPo UsedT R w p (.tuple #[]) s') := by
  have h0 := h
  obtain ⟨ids, vv, hv, pv, lv, tv, mv, bm, kvs, H⟩ := h
  have HS := Lib.hid H
  obtain ⟨c0, c1, c2, c3, c4, c5, c6, c7, c8, c9, c10, c11⟩ := H.cells
  unfold usedF at hs
  split at hs
  case h_1 => cases hs
  rename_i a ha
  split at hs
  case isTrue => cases hs
  rename_i hgd
  have hgd' : 0 ≤ a.score ∧ 0 ≤ s.bump ∧ a.score + s.bump ≤ 4611686018427387904 := by simpa using hgd
  obtain ⟨vs, hvs, hs1⟩ := Option.bind_eq_some_iff.1 hs
  dsimp only at hs1
  split at hs1
  case h_1 => cases hs1
  rename_i pl hpl
  obtain ⟨s2, hup, hs2⟩ := Option.bind_eq_some_iff.1 hs1
  split at hs2
  case h_1 => cases hs2
  rename_i b hb
  obtain ⟨k, g, cc, rfl, hkl, hml, rfl, hrg, x0, x1, x2, x3, x4⟩ := fact_cells H ha
  obtain ⟨k1, hk1, hpk, hpkl⟩ := nth_get hpl
  have hkk : k1 = k := by omega
  subst hkk
  obtain ⟨gp, pc, rfl, _, hpm, xp, _⟩ := row_at H.place hpkl
  rw [Option.some.inj ((List.getElem?_eq_getElem hpkl).symm.trans hpk)] at xp
  obtain ⟨k2, hk2, hkl2, hvs'⟩ := setN_get hvs
  have hkk : k2 = k1 := by omega
  subst hkk
  obtain ⟨k3, hk3, ha3, _⟩ := nth_get ha
  have hkk : k3 = k2 := by omega
  subst hkk
  have hz : ∀ i, w.frozen? ⟨g, i, none⟩ = false := by
    rcases H.vars.shape with ⟨e, _⟩ | ⟨_, _, e, _, _, _, _, _, hz⟩
    · cases e
    · cases e; exact hz
  have hkI : (k3 : Int) < (s.vars.length : Int) := by omega
  have hkP : (k3 : Int) < (s.place.length : Int) := by omega
  have hw1 : wrap64 (a.score + s.bump) = a.score + s.bump := by unfold wrap64; omega
  have hpg : p ≠ g := fun e => by have h1 := H.rvars g rfl; rw [← e, H.rme] at h1; cases h1
  have hgp : g ≠ gp := fun e => by have h1 := H.rvars g rfl; have h2 := H.rplace gp rfl; rw [e, h2] at h1; cases h1
  have r1 := srow_cell H.vars ha3 (j := 3) (by omega) (x' := { a with score := a.score + s.bump }) (u := .int .i64 (a.score + s.bump)) rfl
  rw [← hvs'] at r1
  have hF1 : Frm (fun b => R b = some .vars) w (w.setCell ⟨g, k3 * 5 + 3, none⟩ (.int .i64 (a.score + s.bump))) := (Frm.refl _ w).set (.inl hrg) _
  have H1 := H.in_vars hF1 (x' := vs) r1 (by
    intro y hy c hc
    rw [hvs'] at hy
    rcases List.mem_or_eq_of_mem_set hy with hy | hy
    · exact H.refs.1 y hy c hc
    · subst hy; exact H.refs.1 a (List.mem_of_getElem? ha3) c hc)
  have HH1 := Lib.hid H1
  have HF1 := Lib.hid hF1
  have HUP := Lib.hid hup
  have HBB := Lib.hid hb
  have HS2 := Lib.hid hs2
  have HVL : Hid (vs.length = s.vars.length) := Lib.hid (by rw [hvs']; simp)
  clear H h0 hs hs1 hup hb hs2 hvs hvs' ha hk1 hk2 hk3 hpl hpk ha3 hgd hgd' hF1 H1 r1 x0 x1 x2 x4 hkl2
  go_enter Try.func52, Try.ntmps52
  go_wp2_with fail
  refine Plan.wp_region_plan [0, 1, 3, 7, 0, 31, 63, 127, 0, 256, 768, 1792, 4095, 8191, 16383, 32767] [.mk [0, 1, 2, 3, 4, 5, 6, 7, 8, 9, 10, 11, 12, 13, 14] 15 []] [] (by kernel_rfl) (by kernel_rfl) ?_
  simp only [Plan.wayOf, Plan.pickAll, List.getElem?_cons_zero, List.getElem?_cons_succ, List.getD_eq_getElem?_getD, Option.getD_some]
  refine Plan.wpWay_seg ?_
  repeat go_big_quiet_step (fail)
  refine wpQuiet_nil ?_; refine Plan.wpWay_act ?_
  go_wp2_with (fail)
  refine And.intro Plan.again_nil ?_
  refine Plan.wpWay_last ?_
  refine wpQuiet_nil ?_; refine NoPanic.normal ?_
  obtain ⟨w1, hw⟩ : ∃ w1, w1 = (w.setCell ⟨g, k3 * 5 + 3, none⟩ (.int .i64 (a.score + s.bump))).drew := ⟨_, rfl⟩
  rw [← hw]
  have h1 := HH1.out.frm0 (Frm.refl _ _).drew
  rw [← hw] at h1
  have f1 := HF1.out.drew
  rw [← hw] at f1
  have HM1 : Hid (SMov UsedT R w R w1) := Lib.hid ⟨f1.mono fun q _ hq => ⟨_, hq, .inl rfl⟩, fun _ _ h => h, fun _ h => .inl h⟩
  have HS1 : Hid (SolverAt w1 R p { s with vars := vs }) := Lib.hid ⟨_, _, _, _, _, _, _, _, _, h1⟩
  have c2 : w1.cell? ⟨p, 2, none⟩ = some (.slice (some ⟨gp, 0, none⟩) s.place.length pc) := h1.cells.2.2.1
  have xp : w1.cell? ⟨gp, k3, none⟩ = some (iI pl) := by
    have hb := f1.block gp (World.block_lt_of_cell? _ _ xp) (fun e => by rw [HS.out.rplace gp rfl] at e; cases e)
    rw [← xp]
    simp only [World.cell?, hb]
  clear hw h1 f1 HH1 HF1 c0 c1 c3 c4 c5 c6 c7 c8 c9 c10 c11 x3 hz hw1 hkI hml hpm hkl hrg hpg hgp
  by_cases hp0 : 0 ≤ pl
  · have e0 : decide (0 ≤ pl) = true := by simpa using hp0
    have hup := HUP.out
    rw [if_pos hp0] at hup
    have HUP2 := Lib.hid hup
    clear hup hp0
    go_wp2_with fail
    refine (up_calls HS1.out pl HUP2.out).mono ?_
    rintro e3 w3 ⟨rfl, R3, HS3', HM3'⟩
    have HS3 := Lib.hid HS3'
    have HM3 := Lib.hid (HM1.out.trans (HM3'.mono fun r hr => .inr hr))
    clear HS3' HM3' HM1 HS1 c2 xp hkP e0
    dsimp only
    obtain ⟨ids2, vv2, hv2, pv2, lv2, tv2, mv2, bm2, kvs2, H2⟩ := HS3.out
    obtain ⟨k4, g2, c42, hk4, hkl4, hml4, rfl, hrg2, _, _, _, y3, _⟩ := fact_cells H2 HBB.out
    have hkk : k4 = k3 := by omega
    subst hkk
    obtain ⟨d0, _, _, _, _, _, _, _, _, _, d10, _⟩ := H2.cells
    have hkI : (k4 : Int) < (s2.vars.length : Int) := by omega
    have HH2 := Lib.hid H2
    by_cases hsc : (1099511627776 : Int) < b.score
    · have e1 : decide ((1099511627776 : Int) < b.score) = true := by simpa using hsc
      have hs2 := HS2.out
      rw [if_pos hsc] at hs2
      have HSS := Lib.hid (Option.some.inj hs2)
      clear H2 hs2
      have hml63 : s2.vars.length ≤ 9223372036854775807 := hml4
      go_wp2_with fail
      obtain ⟨vl, hvl⟩ : ∃ vl, vl = s2.vars := ⟨_, rfl⟩
      have HVl := Lib.hid hvl
      rw [← hvl] at HH2 d0 hkI hml63 ⊢
      have HR2 : Hid (∀ x ∈ vl, ∀ c, x.reason = some c → c < s2.cls.length) := Lib.hid (by rw [hvl]; exact HH2.out.refs.1)
      clear y3 hkI hkl4 hml4 hvl d0 d10
      go_loopw [51] (fun v51 w' => ∃ j : Nat, v51 = .int .i64 j ∧ j ≤ vl.length ∧ Hid (SRep w' R3 p { s2 with vars := vj vl j } ids2 (.slice (some ⟨g2, 0, none⟩) vl.length c42) hv2 pv2 lv2 tv2 mv2 bm2 kvs2) ∧ Hid (SMov UsedT R w R3 w')) (fun v51 _ => vl.length - (intOf v51).toNat)
      case atStart => exact ⟨0, rfl, by omega, Lib.hid (by rw [show vj vl 0 = s2.vars by rw [HVl.out]; simp [vj]]; exact HH2.out), HM3⟩
      case round =>
        obtain ⟨j, rfl, hj, HSj, HMj⟩ := hrel
        clear HS3 HM3 HH2
        obtain ⟨d0, _, _, _, _, _, _, _, _, _, d10, _⟩ := HSj.out.cells
        by_cases hjl : j < vl.length
        · have hjI : (j : Int) < (vl.length : Int) := by omega
          have hg := vj_get hjl
          have hr := (HSj.out.vars)
          have xs : wr.cell? ⟨g2, j * 5 + 3, none⟩ = some (.int .i64 vl[j].score) := by
            rcases hr.shape with ⟨e, _⟩ | ⟨g', c', e, _, _, _, _, hc, _⟩
            · cases e
            · injection e with ea eb ec
              cases ea
              exact hc j _ 3 _ hg rfl
          have hz : ∀ i, wr.frozen? ⟨g2, i, none⟩ = false := by
            rcases hr.shape with ⟨e, _⟩ | ⟨g', c', e, _, _, _, _, _, hz⟩
            · cases e
            · injection e with ea eb ec
              cases ea
              exact hz
          obtain ⟨m, hm⟩ : ∃ m, m = vl[j].score := ⟨_, rfl⟩
          rw [← hm] at xs
          have hpg : p ≠ g2 := fun e => by have h1 := HSj.out.rvars g2 rfl; rw [← e, HSj.out.rme] at h1; cases h1
          have HGG := Lib.hid (HSj.out.rvars g2 rfl)
          have HMm := Lib.hid hm
          have HG := Lib.hid hg
          clear hg hr hm
          go_wp2_with fail
          go_roundw
          case rel =>
            have r1 := srow_cell HSj.out.vars HG.out (j := 3) (by omega) (x' := resc vl[j]) (u := .int .i64 (m / 1048576)) (by rw [HMm.out]; rfl)
            rw [vj_set hjl] at r1
            have hf : Frm (fun b => R3 b = some .vars) wr (wr.setCell ⟨g2, j * 5 + 3, none⟩ (.int .i64 (m / 1048576))) := (Frm.refl _ wr).set (.inl HGG.out) _
            have h1 := HSj.out.in_vars hf (x' := vj vl (j + 1)) r1 (by
              intro y hy c hc
              unfold vj at hy
              rcases List.mem_append.1 hy with hy | hy
              · obtain ⟨x, hx, rfl⟩ := List.mem_map.1 hy
                exact HR2.out x (List.mem_of_mem_take hx) c hc
              · exact HR2.out y (List.mem_of_mem_drop hy) c hc)
            exact ⟨j + 1, rfl, hjl, Lib.hid h1, Lib.hid (HMj.out.trans ⟨hf.mono fun q _ hq => ⟨_, hq, .inl rfl⟩, fun _ _ h => h, fun _ h => .inl h⟩)⟩
          case measure => simp only [intOf]; omega
        · have hjI : ¬ (j : Int) < (vl.length : Int) := by omega
          have hje : j = vl.length := by omega
          subst hje
          rw [vj_end] at HSj
          have hz : ∀ i, wr.frozen? ⟨p, i, none⟩ = false := fun i => blk_free HSj.out.box i
          obtain ⟨nb, hnb⟩ : ∃ nb, nb = (if s2.bump / 1048576 < 1 then (1 : Int) else s2.bump / 1048576) := ⟨_, rfl⟩
          have hmx : max (s2.bump / 1048576) 1 = nb := by rw [hnb]; omega
          obtain ⟨HT, HTM⟩ := HSj.out.tell_bump nb
          have HT1 := Lib.hid HT
          have HM5 := Lib.hid (HMj.out.trans (HTM.mono fun r hr => .inr (.inr (.inr hr))))
          have HSE : Hid (({ s2 with vars := vl.map resc, bump := nb } : St) = s') := Lib.hid (by rw [← HSS.out, hnb, HVl.out]; rfl)
          clear hnb HT HTM d0
          have HMX := Lib.hid hmx
          clear hmx
          go_wp2
          all_goals go_end0
          all_goals have hmx := HMX.out
          all_goals first | (have e : nb = s2.bump / 1048576 := (by omega); subst e) | (have e : nb = 1 := (by omega); subst e)
          all_goals exact ⟨rfl, _, by rw [← HSE.out]; exact ⟨_, _, _, _, _, _, _, _, _, HT1.out⟩, HM5.out⟩
    · have e1 : decide ((1099511627776 : Int) < b.score) = false := by simpa using hsc
      have hs2 := HS2.out
      rw [if_neg hsc] at hs2
      have HSS := Lib.hid (Option.some.inj hs2)
      clear H2 hs2 hsc
      go_wp2
      go_end0
      exact ⟨rfl, _, by rw [← HSS.out]; exact HS3.out, HM3.out⟩
  · have e0 : decide (0 ≤ pl) = false := by simpa using hp0
    have hup := HUP.out
    rw [if_neg hp0] at hup
    have hse : s2 = { s with vars := vs } := (Option.some.inj hup).symm
    obtain ⟨w3, hw3⟩ : ∃ w3, w3 = w1 := ⟨_, rfl⟩
    obtain ⟨R3, hR3⟩ : ∃ R3, R3 = R := ⟨_, rfl⟩
    have HS3 : Hid (SolverAt w3 R3 p s2) := Lib.hid (by rw [hw3, hR3, hse]; exact HS1.out)
    have HM3 : Hid (SMov UsedT R w R3 w3) := Lib.hid (by rw [hw3, hR3]; exact HM1.out)
    rw [← hw3] at c2 xp ⊢
    clear hp0 hw3 HM1 HS1 hup hse hR3
    obtain ⟨ids2, vv2, hv2, pv2, lv2, tv2, mv2, bm2, kvs2, H2⟩ := HS3.out
    obtain ⟨k4, g2, c42, hk4, hkl4, hml4, rfl, hrg2, _, _, _, y3, _⟩ := fact_cells H2 HBB.out
    have hkk : k4 = k3 := by omega
    subst hkk
    obtain ⟨d0, _, _, _, _, _, _, _, _, _, d10, _⟩ := H2.cells
    have hkI : (k4 : Int) < (s2.vars.length : Int) := by omega
    have HH2 := Lib.hid H2
    by_cases hsc : (1099511627776 : Int) < b.score
    · have e1 : decide ((1099511627776 : Int) < b.score) = true := by simpa using hsc
      have hs2 := HS2.out
      rw [if_pos hsc] at hs2
      have HSS := Lib.hid (Option.some.inj hs2)
      clear H2 hs2
      have hml63 : s2.vars.length ≤ 9223372036854775807 := hml4
      go_wp2_with fail
      obtain ⟨vl, hvl⟩ : ∃ vl, vl = s2.vars := ⟨_, rfl⟩
      have HVl := Lib.hid hvl
      rw [← hvl] at HH2 d0 hkI hml63 ⊢
      have HR2 : Hid (∀ x ∈ vl, ∀ c, x.reason = some c → c < s2.cls.length) := Lib.hid (by rw [hvl]; exact HH2.out.refs.1)
      clear y3 hkI hkl4 hml4 hvl d0 d10
      go_loopw [51] (fun v51 w' => ∃ j : Nat, v51 = .int .i64 j ∧ j ≤ vl.length ∧ Hid (SRep w' R3 p { s2 with vars := vj vl j } ids2 (.slice (some ⟨g2, 0, none⟩) vl.length c42) hv2 pv2 lv2 tv2 mv2 bm2 kvs2) ∧ Hid (SMov UsedT R w R3 w')) (fun v51 _ => vl.length - (intOf v51).toNat)
      case atStart => exact ⟨0, rfl, by omega, Lib.hid (by rw [show vj vl 0 = s2.vars by rw [HVl.out]; simp [vj]]; exact HH2.out), HM3⟩
      case round =>
        obtain ⟨j, rfl, hj, HSj, HMj⟩ := hrel
        clear HS3 HM3 HH2
        obtain ⟨d0, _, _, _, _, _, _, _, _, _, d10, _⟩ := HSj.out.cells
        by_cases hjl : j < vl.length
        · have hjI : (j : Int) < (vl.length : Int) := by omega
          have hg := vj_get hjl
          have hr := (HSj.out.vars)
          have xs : wr.cell? ⟨g2, j * 5 + 3, none⟩ = some (.int .i64 vl[j].score) := by
            rcases hr.shape with ⟨e, _⟩ | ⟨g', c', e, _, _, _, _, hc, _⟩
            · cases e
            · injection e with ea eb ec
              cases ea
              exact hc j _ 3 _ hg rfl
          have hz : ∀ i, wr.frozen? ⟨g2, i, none⟩ = false := by
            rcases hr.shape with ⟨e, _⟩ | ⟨g', c', e, _, _, _, _, _, hz⟩
            · cases e
            · injection e with ea eb ec
              cases ea
              exact hz
          obtain ⟨m, hm⟩ : ∃ m, m = vl[j].score := ⟨_, rfl⟩
          rw [← hm] at xs
          have hpg : p ≠ g2 := fun e => by have h1 := HSj.out.rvars g2 rfl; rw [← e, HSj.out.rme] at h1; cases h1
          have HGG := Lib.hid (HSj.out.rvars g2 rfl)
          have HMm := Lib.hid hm
          have HG := Lib.hid hg
          clear hg hr hm
          go_wp2_with fail
          go_roundw
          case rel =>
            have r1 := srow_cell HSj.out.vars HG.out (j := 3) (by omega) (x' := resc vl[j]) (u := .int .i64 (m / 1048576)) (by rw [HMm.out]; rfl)
            rw [vj_set hjl] at r1
            have hf : Frm (fun b => R3 b = some .vars) wr (wr.setCell ⟨g2, j * 5 + 3, none⟩ (.int .i64 (m / 1048576))) := (Frm.refl _ wr).set (.inl HGG.out) _
            have h1 := HSj.out.in_vars hf (x' := vj vl (j + 1)) r1 (by
              intro y hy c hc
              unfold vj at hy
              rcases List.mem_append.1 hy with hy | hy
              · obtain ⟨x, hx, rfl⟩ := List.mem_map.1 hy
                exact HR2.out x (List.mem_of_mem_take hx) c hc
              · exact HR2.out y (List.mem_of_mem_drop hy) c hc)
            exact ⟨j + 1, rfl, hjl, Lib.hid h1, Lib.hid (HMj.out.trans ⟨hf.mono fun q _ hq => ⟨_, hq, .inl rfl⟩, fun _ _ h => h, fun _ h => .inl h⟩)⟩
          case measure => simp only [intOf]; omega
        · have hjI : ¬ (j : Int) < (vl.length : Int) := by omega
          have hje : j = vl.length := by omega
          subst hje
          rw [vj_end] at HSj
          have hz : ∀ i, wr.frozen? ⟨p, i, none⟩ = false := fun i => blk_free HSj.out.box i
          obtain ⟨nb, hnb⟩ : ∃ nb, nb = (if s2.bump / 1048576 < 1 then (1 : Int) else s2.bump / 1048576) := ⟨_, rfl⟩
          have hmx : max (s2.bump / 1048576) 1 = nb := by rw [hnb]; omega
          obtain ⟨HT, HTM⟩ := HSj.out.tell_bump nb
          have HT1 := Lib.hid HT
          have HM5 := Lib.hid (HMj.out.trans (HTM.mono fun r hr => .inr (.inr (.inr hr))))
          have HSE : Hid (({ s2 with vars := vl.map resc, bump := nb } : St) = s') := Lib.hid (by rw [← HSS.out, hnb, HVl.out]; rfl)
          clear hnb HT HTM d0
          have HMX := Lib.hid hmx
          clear hmx
          go_wp2
          all_goals go_end0
          all_goals have hmx := HMX.out
          all_goals first | (have e : nb = s2.bump / 1048576 := (by omega); subst e) | (have e : nb = 1 := (by omega); subst e)
          all_goals exact ⟨rfl, _, by rw [← HSE.out]; exact ⟨_, _, _, _, _, _, _, _, _, HT1.out⟩, HM5.out⟩
    · have e1 : decide ((1099511627776 : Int) < b.score) = false := by simpa using hsc
      have hs2 := HS2.out
      rw [if_neg hsc] at hs2
      have HSS := Lib.hid (Option.some.inj hs2)
      clear H2 hs2 hsc
      go_wp2
      go_end0
      exact ⟨rfl, _, by rw [← HSS.out]; exact HS3.out, HM3.out⟩
end
end SaW
end Go.Proofs.Ytfpjfogddepbkaa
