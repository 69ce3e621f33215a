/- The document's word, walked: Cast. -/
import Derived.Test.YtbbajekecppioaaGreatDoorGa20
set_option linter.unusedSimpArgs false
set_option linter.unusedVariables false
namespace Go.Proofs.YtbbajekecppioaaGreatDoor
open Go.RowKit Go.Mem Go.Wd
namespace RfW
open TmW (frm_alloc frm_then Box wrap_nat64 frm_cellD frm_cell negE)
theorem right_at (w : World) {t : Ty} {b : Bool} (h : rightF t = b) : Calls Tryz.prog 15 #[.agg #[.int .i64 t.1, .bool t.2]] w fun e w' => e = .returned (.bool b) ∧ Frm (fun _ => False) w w' := by subst h; exact Right_calls w t
structure Two (w wr : World) (s t : Ty) : Prop where
  one : Box wr w.heap.size s
  two : Box wr (w.heap.size + 1) t
  frm : Frm (fun _ => False) w wr
theorem Two.frm0 {w wr w2 : World} {s t : Ty} (h : Two w wr s t) (hf : Frm (fun _ => False) wr w2) : Two w w2 s t := ⟨TmW.Box.frm0 h.one hf, TmW.Box.frm0 h.two hf, frm_then h.frm hf⟩
theorem Two.drew {w wr : World} {s t : Ty} (h : Two w wr s t) : Two w wr.drew s t := h.frm0 (Frm.refl _ _).drew
theorem Two.cells {w wr : World} {s t : Ty} (h : Two w wr s t) : wr.cell? ⟨w.heap.size, 0, none⟩ = some (.int .i64 s.1) ∧ wr.cell? ⟨w.heap.size, 1, none⟩ = some (.bool s.2) ∧ wr.cell? ⟨w.heap.size + 1, 0, none⟩ = some (.int .i64 t.1) ∧ wr.cell? ⟨w.heap.size + 1, 1, none⟩ = some (.bool t.2) := ⟨(TmW.Box.cells h.one).1, (TmW.Box.cells h.one).2, (TmW.Box.cells h.two).1, (TmW.Box.cells h.two).2⟩
theorem Two.new (w : World) (s t : Ty) : Two w ((w.alloc (.cells #[.int .i64 s.1, .bool s.2] 23)).alloc (.cells #[.int .i64 t.1, .bool t.2] 23)) s t := by
  refine ⟨TmW.Box.frm0 (TmW.Box.new w s) (frm_alloc _ (.cells #[.int .i64 t.1, .bool t.2] 23)), ?_, frm_then (frm_alloc w (.cells #[.int .i64 s.1, .bool s.2] 23)) (frm_alloc (w.alloc (.cells #[.int .i64 s.1, .bool s.2] 23)) (.cells #[.int .i64 t.1, .bool t.2] 23))⟩
  have h := TmW.Box.new (w.alloc (.cells #[.int .i64 s.1, .bool s.2] 23)) t
  rw [show (w.alloc (.cells #[.int .i64 s.1, .bool s.2] 23)).heap.size = w.heap.size + 1 by simp] at h
  exact h
theorem cast_b1 (w : World) (s t : Ty) (v : Nat) (hs : rightF s = false) :
    Calls Tryz.prog 35 #[.agg #[.int .i64 s.1, .bool s.2], .agg #[.int .i64 t.1, .bool t.2], .int .u64 v] w fun e w' => e = .returned (.int .u64 0) ∧ Frm (fun _ => False) w w' := by
  have H := Lib.hid (Two.new w s t)
  obtain ⟨a0, a1, b0, b1⟩ := (Two.new w s t).cells
  have HR := Lib.hid fun w1 => right_at w1 hs
  clear hs
  go_enter Tryz.func35, Tryz.ntmps35
  go_wp2_with fail
  refine (HR.out _).mono ?_
  rintro e x1 ⟨rfl, hf⟩
  have H1 := Lib.hid (H.out.frm0 hf)
  obtain ⟨c0, c1, d0, d1⟩ := (H.out.frm0 hf).cells
  clear hf
  go_wp2
  go_ret
  exact ⟨rfl, H1.out.frm⟩
theorem cast_b2 (w : World) (s t : Ty) (v : Nat) (hs : rightF s = true) (ht : rightF t = false) :
    Calls Tryz.prog 35 #[.agg #[.int .i64 s.1, .bool s.2], .agg #[.int .i64 t.1, .bool t.2], .int .u64 v] w fun e w' => e = .returned (.int .u64 0) ∧ Frm (fun _ => False) w w' := by
  have H := Lib.hid (Two.new w s t)
  obtain ⟨a0, a1, b0, b1⟩ := (Two.new w s t).cells
  have HR := Lib.hid fun w1 => right_at w1 hs
  have HT := Lib.hid fun w1 => right_at w1 ht
  clear hs ht
  go_enter Tryz.func35, Tryz.ntmps35
  go_wp2_with fail
  refine (HR.out _).mono ?_
  rintro e x1 ⟨rfl, hf⟩
  have H1 := Lib.hid (H.out.frm0 hf)
  obtain ⟨c0, c1, d0, d1⟩ := (H.out.frm0 hf).cells
  clear hf a0 a1 b0 b1
  go_wp2_with fail
  refine (HT.out _).mono ?_
  rintro e x2 ⟨rfl, hf⟩
  have H2 := Lib.hid (H1.out.frm0 hf)
  clear hf c0 c1 d0 d1
  go_wp2
  go_ret
  exact ⟨rfl, H2.out.frm⟩
theorem cast_one (w : World) (s t : Ty) (v : Nat) (hs : rightF s = true) (ht : rightF t = true) (h1 : t.1 = 1) (hv : v < 2 ^ 64) :
    Calls Tryz.prog 35 #[.agg #[.int .i64 s.1, .bool s.2], .agg #[.int .i64 t.1, .bool t.2], .int .u64 v] w fun e w' => e = .returned (.int .u64 (if normF s v = 0 then 0 else 1 : Nat)) ∧ Frm (fun _ => False) w w' := by
  have H := Lib.hid (Two.new w s t)
  obtain ⟨a0, a1, b0, b1⟩ := (Two.new w s t).cells
  have HR := Lib.hid fun w1 => right_at w1 hs
  have HT := Lib.hid fun w1 => right_at w1 ht
  have HN := Lib.hid fun w1 => Norm_calls w1 s v hv
  generalize normF s v = x at *
  have hb : (t.1 == 1) = true := by simp [h1]
  clear hs ht hv h1
  go_enter Tryz.func35, Tryz.ntmps35
  go_wp2_with fail
  refine (HR.out _).mono ?_
  rintro e x1 ⟨rfl, hf⟩
  have H1 := Lib.hid (H.out.frm0 hf)
  obtain ⟨c0, c1, d0, d1⟩ := (H.out.frm0 hf).cells
  clear hf a0 a1 b0 b1
  go_wp2_with fail
  refine (HT.out _).mono ?_
  rintro e x2 ⟨rfl, hf⟩
  have H2 := Lib.hid (H1.out.frm0 hf)
  obtain ⟨a0, a1, b0, b1⟩ := (H1.out.frm0 hf).cells
  clear hf c0 c1 d0 d1
  go_wp2_with fail
  refine (HN.out _).mono ?_
  rintro e x3 ⟨rfl, hf⟩
  have H3 := Lib.hid (frm_then H2.out.frm hf)
  clear hf
  by_cases hx : x = 0
  · subst hx
    go_wp2
    go_ret
    exact ⟨rfl, H3.out⟩
  · go_wp2
    go_ret
    exact ⟨rfl, H3.out⟩
theorem sees_cut {α : Type} {w : World} {enc : α → Value} {A : Option Addr} {n c : Nat} {xs : List α} (h : Sees w enc (.slice A n c) xs) (k : Nat) (hk : k ≤ n) (h0 : n ≠ 0) : Sees w enc (.slice A k c) (xs.take k) := sees_take h k hk h0
set_option maxHeartbeats 1000000 in
theorem cast_wide (w : World) (s t : Ty) (v : Nat) (hs : rightF s = true) (ht : rightF t = true) (h1 : t.1 ≠ 1) (hv : v < 2 ^ 64) :
    Calls Tryz.prog 35 #[.agg #[.int .i64 s.1, .bool s.2], .agg #[.int .i64 t.1, .bool t.2], .int .u64 v] w fun e w' => e = .returned (.int .u64 (valF ((wideF s v).take (wid t)) : Nat)) ∧ Frm (fun _ => False) w w' := by
  obtain ⟨x, sg⟩ := t
  obtain ⟨n, rfl⟩ : ∃ n : Nat, x = n := ⟨_, wid_int ht⟩
  have hw := show wid ((n : Int), sg) = n by unfold wid; simp
  have hl := wid_le ht
  rw [hw] at hl ⊢
  obtain ⟨hl1, hl64⟩ := hl
  have H := Lib.hid (Two.new w s ((n : Int), sg))
  obtain ⟨a0, a1, b0, b1⟩ := (Two.new w s ((n : Int), sg)).cells
  have HR := Lib.hid fun w1 => right_at w1 hs
  have HT := Lib.hid fun w1 => right_at w1 ht
  have HW := Lib.hid fun w1 => wide_calls hs w1 v hv
  have HL := Lib.hid (wide_len hs v)
  have hb : ((n : Int) == 1) = false := by simp; exact fun h => h1 (by simp [h])
  generalize wideF s v = l at *
  clear hs ht hv h1 hw
  simp only at b0 b1
  go_enter Tryz.func35, Tryz.ntmps35
  go_wp2_with fail
  refine (HR.out _).mono ?_
  rintro e x1 ⟨rfl, hf⟩
  have H1 := Lib.hid (H.out.frm0 hf)
  obtain ⟨c0, c1, d0, d1⟩ := (H.out.frm0 hf).cells
  clear hf a0 a1 b0 b1
  go_wp2_with fail
  refine (HT.out _).mono ?_
  rintro e x2 ⟨rfl, hf⟩
  have H2 := Lib.hid (H1.out.frm0 hf)
  obtain ⟨a0, a1, b0, b1⟩ := (H1.out.frm0 hf).cells
  clear hf c0 c1 d0 d1
  simp only at b0 b1
  go_wp2_with fail
  refine Plan.wp_region_plan [0, 0, 3, 0, 8, 31, 63, 127] [.mk [0, 1, 3, 4] 2 [3, 4], .mk [5] 6 []] [7] (by kernel_rfl) (by kernel_rfl) ?_
  simp only [Plan.wayOf, Plan.pickAll, List.getElem?_cons_zero, List.getElem?_cons_succ, List.getD_eq_getElem?_getD, Option.getD_some]
  refine Plan.wpWay_seg ?_
  repeat go_big_quiet_step (fail)
  refine wpQuiet_nil ?_; refine Plan.wpWay_act ?_
  go_wp2_with fail
  refine (HW.out _).mono ?_
  rintro e x3 ⟨r, rfl, hrow, hf, _⟩
  have H3 := Lib.hid (H2.out.drew.frm0 hf)
  obtain ⟨c0, c1, d0, d1⟩ := (H2.out.drew.frm0 hf).cells
  have HRow := Lib.hid hrow.sees
  clear hf hrow a0 a1 b0 b1
  obtain ⟨A, c, rfl, hcell⟩ := sees_slice HRow.out
  rw [HL.out] at HRow ⊢
  obtain ⟨g, o, rfl, _⟩ := hcell 0 _ (List.getElem?_eq_getElem (by rw [HL.out]; omega))
  have hcap : 64 ≤ c := by rcases HRow.out with ⟨e, _⟩ | ⟨_, _, _, e, q, _⟩ <;> simp only [Value.slice.injEq] at e <;> omega
  have HS := Lib.hid (sees_cut HRow.out n hl64 (by decide))
  clear hcell
  simp only at d0 d1
  go_wp2_with fail
  refine And.intro ?_ ?_; focus ((iterate 2 (refine Plan.again_cons ?_ ?_; focus (go_big_quiet_step (fail); exact wpQuiet_nil rfl))); exact Plan.again_nil)
  refine Plan.wpWay_seg ?_
  repeat go_big_quiet_step (fail)
  refine wpQuiet_nil ?_; refine Plan.wpWay_act ?_
  go_wp2_with fail
  refine (Value_calls _ _ _ HS.out (by rw [List.length_take, HL.out]; omega)).mono ?_
  rintro e x4 ⟨rfl, hf⟩
  have H4 := Lib.hid (frm_then H3.out.frm hf)
  clear hf
  go_wp2_with fail
  refine And.intro Plan.again_nil ?_
  refine Plan.wpWay_last ?_
  repeat go_big_quiet_step (fail)
  refine wpQuiet_nil ?_; refine NoPanic.normal ?_
  go_wp2
  go_ret
  exact ⟨rfl, H4.out⟩
theorem Cast_calls (w : World) (s t : Ty) (v : Nat) (hv : v < 2 ^ 64) :
    Calls Tryz.prog 35 #[.agg #[.int .i64 s.1, .bool s.2], .agg #[.int .i64 t.1, .bool t.2], .int .u64 v] w fun e w' => e = .returned (.int .u64 (castF s t v : Nat)) ∧ Frm (fun _ => False) w w' := by
  rw [← Wd.cast_eq]
  unfold castR
  cases hs : rightF s
  · exact cast_b1 w s t v hs
  · cases ht : rightF t
    · exact cast_b2 w s t v hs ht
    · by_cases h1 : t.1 = 1
      · rw [if_pos (by rfl), if_pos h1]; exact cast_one w s t v hs ht h1 hv
      · rw [if_pos (by rfl), if_neg h1]; exact cast_wide w s t v hs ht h1 hv
end RfW
end Go.Proofs.YtbbajekecppioaaGreatDoor
/- The document's word, walked: Turn. -/
namespace Go.Proofs.YtbbajekecppioaaGreatDoor
open Go.RowKit Go.Mem Go.Wd
namespace RfW
open TmW (frm_alloc frm_then Box wrap_nat64 frm_cellD frm_cell negE eqS)
abbrev notB : Bool → Bool → Bool := fun x _ => !x
theorem mix_not (n a : Nat) : mix n notB a 0 n = notF a n := by rw [mix_all]; rfl
theorem not_set {w wr : World} {g1 n k1 k a : Nat} {t : Ty} (hk : k < n) (hX : BRow wr (.slice (some ⟨g1, 0, none⟩) n k1) (mix n notB a 0 k)) (hF : Frm (fun _ => False) w wr) (hB : Box wr w.heap.size t) (h1 : w.heap.size < g1) :
    BRow (wr.setCell ⟨g1, k, none⟩ (.bool (!a.testBit k))) (.slice (some ⟨g1, 0, none⟩) n k1) (mix n notB a 0 (k + 1)) ∧ Frm (fun _ => False) w (wr.setCell ⟨g1, k, none⟩ (.bool (!a.testBit k))) ∧ Box (wr.setCell ⟨g1, k, none⟩ (.bool (!a.testBit k))) w.heap.size t := by
  have hS : Frm (fun x => x = g1) wr (wr.setCell ⟨g1, k, none⟩ (.bool (!a.testBit k))) := (Frm.refl (fun x => x = g1) wr).set (p := ⟨g1, k, none⟩) (.inl rfl) _
  refine ⟨?_, hF.trans hS fun x hx h => by omega, TmW.Box.frm hB hS (by omega)⟩
  rw [← mix_set]
  exact row_set hX k (by rw [mix_len]; exact hk) _
set_option maxRecDepth 100000 in
set_option maxHeartbeats 4000000 in
theorem turn_not {t : Ty} (h : rightF t = true) (w : World) (op : ByteArray) (a : Nat) (ha : a < 2 ^ 64) (hc : (op = sTil ∧ 1 < t.1) ∨ (op = sNot ∧ t.1 = 1)) :
    Calls Tryz.prog 36 #[.agg #[.int .i64 t.1, .bool t.2], .string op, .int .u64 a] w fun e w' => e = .returned (.tuple #[.int .u64 (valF (notF a (wid t)) : Nat), .int .i64 0]) ∧ Frm (fun _ => False) w w' := by
  obtain ⟨x, sg⟩ := t
  obtain ⟨n, rfl⟩ : ∃ n : Nat, x = n := ⟨_, wid_int h⟩
  have hF := Lib.hid (frm_alloc w (.cells #[.int .i64 n, .bool sg] 23))
  have HB := Lib.hid (TmW.Box.new w ((n : Int), sg))
  have ⟨b0, b1⟩ := (TmW.Box.new w ((n : Int), sg)).cells
  simp only at b0 b1 hc
  have hl := wid_le h
  have hw := show wid ((n : Int), sg) = n by unfold wid; simp
  rw [hw] at hl ⊢
  obtain ⟨h1, h64⟩ := hl
  have HA := Lib.hid (Bits_calls (v := a) (n := n) · h64 ha)
  have HR := Lib.hid fun w1 => right_at w1 h
  clear h hw
  rcases hc with ⟨rfl, hn⟩ | ⟨rfl, hn⟩
  · have d1 : (sTil.toList == [126]) = true := by rw [eqS]; rfl
    go_enter Tryz.func36, Tryz.ntmps36
    go_wp2_with fail
    refine (HR.out _).mono ?_
    rintro e w1 ⟨rfl, hf⟩
    have HB1 := Lib.hid (TmW.Box.frm0 HB.out hf)
    have ⟨c0, c1⟩ := (TmW.Box.frm0 HB.out hf).cells
    have HF1 := Lib.hid (frm_then hF.out hf)
    clear hf b0 b1
    try simp only at c0 c1
    go_wp2_with fail
    refine (HA.out _).mono ?_
    rintro e w2 ⟨r, rfl, hrow, hf, ho⟩
    have HF2 := Lib.hid (frm_then HF1.out hf)
    have HB2 := Lib.hid (TmW.Box.frm0 HB1.out hf)
    obtain ⟨g1, k1, rfl, q1⟩ : ∃ g c, r = .slice (some ⟨g, 0, none⟩) n c ∧ r.ownBlock = some g := by
      rcases hrow.shape with ⟨_, h⟩ | ⟨g, c, h, h', _⟩
      · have := congrArg List.length h; rw [bits_len] at this; simp at this; omega
      · rw [bits_len] at h; exact ⟨g, c, h, h'⟩
    have hg1 := Lib.hid (show w.heap.size < g1 by have e1 := ho g1 q1; have := lt_of_block HB1.out; omega)
    have HRA := Lib.hid hrow
    clear hrow hf ho q1
    go_wp2_with fail
    go_loopw [9] (fun v9 w' => ∃ k : Nat, k ≤ n ∧ v9 = .int .i64 k ∧ Hid (BRow w' (.slice (some ⟨g1, 0, none⟩) n k1) (mix n notB a 0 k)) ∧ Hid (Frm (fun _ => False) w w') ∧ Hid (Box w' w.heap.size ((n : Int), sg))) (fun v9 _ => n - (intOf v9).toNat)
    case atStart => exact ⟨0, Nat.zero_le _, rfl, Lib.hid (by rw [mix_zero]; exact HRA.out), HF2, HB2⟩
    case round =>
      obtain ⟨k, hk, rfl, HX, HF3, HB3⟩ := hrel
      have ⟨d0, d1⟩ := HB3.out.cells
      simp only at d0 d1
      by_cases hlt : k < n
      · have ⟨x0, x1⟩ := brow_cell HX.out (mix_get notB a 0 hlt)
        have HS := Lib.hid (not_set hlt HX.out HF3.out HB3.out hg1.out)
        go_wp2
        go_roundw
        case rel => exact ⟨k + 1, by omega, by go_num, Lib.hid HS.out.1, Lib.hid HS.out.2.1, Lib.hid HS.out.2.2⟩
        case measure => simp [intOf]; omega
      · have hke : k = n := by omega
        subst hke
        have HVal := Lib.hid (Value_calls wr _ _ HX.out.sees (by rw [mix_len]; exact h64))
        have hall := Lib.hid (mix_not k a)
        go_wp2_with (go_at_call 67; refine HVal.out.mono ?_; rintro e w4 ⟨rfl, hf4⟩; have HF4 := Lib.hid (frm_then HF3.out hf4); clear hf4)
        go_ret2
        exact ⟨by rw [hall.out]; rfl, HF4.out⟩
  · have d1 : (sNot.toList == [126]) = false := by rw [eqS]; rfl
    have d2 : (sNot.toList == [33]) = true := by rw [eqS]; rfl
    have d3 : ((n : Int) == 1) = true := by simpa using hn
    clear hn
    go_enter Tryz.func36, Tryz.ntmps36
    go_wp2_with fail
    refine (HR.out _).mono ?_
    rintro e w1 ⟨rfl, hf⟩
    have HB1 := Lib.hid (TmW.Box.frm0 HB.out hf)
    have ⟨c0, c1⟩ := (TmW.Box.frm0 HB.out hf).cells
    have HF1 := Lib.hid (frm_then hF.out hf)
    clear hf b0 b1
    try simp only at c0 c1
    go_wp2_with fail
    refine (HA.out _).mono ?_
    rintro e w2 ⟨r, rfl, hrow, hf, ho⟩
    have HF2 := Lib.hid (frm_then HF1.out hf)
    have HB2 := Lib.hid (TmW.Box.frm0 HB1.out hf)
    obtain ⟨g1, k1, rfl, q1⟩ : ∃ g c, r = .slice (some ⟨g, 0, none⟩) n c ∧ r.ownBlock = some g := by
      rcases hrow.shape with ⟨_, h⟩ | ⟨g, c, h, h', _⟩
      · have := congrArg List.length h; rw [bits_len] at this; simp at this; omega
      · rw [bits_len] at h; exact ⟨g, c, h, h'⟩
    have hg1 := Lib.hid (show w.heap.size < g1 by have e1 := ho g1 q1; have := lt_of_block HB1.out; omega)
    have HRA := Lib.hid hrow
    clear hrow hf ho q1
    go_wp2_with fail
    go_loopw [9] (fun v9 w' => ∃ k : Nat, k ≤ n ∧ v9 = .int .i64 k ∧ Hid (BRow w' (.slice (some ⟨g1, 0, none⟩) n k1) (mix n notB a 0 k)) ∧ Hid (Frm (fun _ => False) w w') ∧ Hid (Box w' w.heap.size ((n : Int), sg))) (fun v9 _ => n - (intOf v9).toNat)
    case atStart => exact ⟨0, Nat.zero_le _, rfl, Lib.hid (by rw [mix_zero]; exact HRA.out), HF2, HB2⟩
    case round =>
      obtain ⟨k, hk, rfl, HX, HF3, HB3⟩ := hrel
      have ⟨d0, d1⟩ := HB3.out.cells
      simp only at d0 d1
      by_cases hlt : k < n
      · have ⟨x0, x1⟩ := brow_cell HX.out (mix_get notB a 0 hlt)
        have HS := Lib.hid (not_set hlt HX.out HF3.out HB3.out hg1.out)
        go_wp2
        go_roundw
        case rel => exact ⟨k + 1, by omega, by go_num, Lib.hid HS.out.1, Lib.hid HS.out.2.1, Lib.hid HS.out.2.2⟩
        case measure => simp [intOf]; omega
      · have hke : k = n := by omega
        subst hke
        have HVal := Lib.hid (Value_calls wr _ _ HX.out.sees (by rw [mix_len]; exact h64))
        have hall := Lib.hid (mix_not k a)
        go_wp2_with (go_at_call 67; refine HVal.out.mono ?_; rintro e w4 ⟨rfl, hf4⟩; have HF4 := Lib.hid (frm_then HF3.out hf4); clear hf4)
        go_ret2
        exact ⟨by rw [hall.out]; rfl, HF4.out⟩
set_option maxRecDepth 100000 in
set_option maxHeartbeats 1000000 in
theorem turn_neg {t : Ty} (h : rightF t = true) (w : World) (a : Nat) (ha : a < 2 ^ 64) (h1 : 1 < t.1) :
    Calls Tryz.prog 36 #[.agg #[.int .i64 t.1, .bool t.2], .string sSub, .int .u64 a] w fun e w' => e = .returned (.tuple #[.int .u64 (normF t ((2 ^ 64 - a) % 2 ^ 64) : Nat), .int .i64 0]) ∧ Frm (fun _ => False) w w' := by
  have hF := Lib.hid (frm_alloc w (.cells #[.int .i64 t.1, .bool t.2] 23))
  have HB := Lib.hid (TmW.Box.new w t)
  have ⟨b0, b1⟩ := (TmW.Box.new w t).cells
  have HN := Lib.hid (fun w1 => negE a ha ▸ Norm_calls w1 t ((2 ^ 64 - a) % 2 ^ 64) (by omega))
  have HR := Lib.hid fun w1 => right_at w1 h
  have d1 : (sSub.toList == [126]) = false := by rw [eqS]; rfl
  have d2 : (sSub.toList == [33]) = false := by rw [eqS]; rfl
  have d3 : (sSub.toList == [45]) = true := by rw [eqS]; rfl
  clear h ha
  go_enter Tryz.func36, Tryz.ntmps36
  go_wp2_with fail
  refine (HR.out _).mono ?_
  rintro e w1 ⟨rfl, hf⟩
  have HB1 := Lib.hid (TmW.Box.frm0 HB.out hf)
  have ⟨c0, c1⟩ := (TmW.Box.frm0 HB.out hf).cells
  have HF1 := Lib.hid (frm_then hF.out hf)
  clear hf b0 b1
  try simp only at c0 c1
  go_wp2_with (go_at_call 34; refine (HN.out _).mono ?_; rintro e w3 ⟨rfl, hf⟩; have HF3 := Lib.hid (frm_then HF1.out hf); clear hf)
  go_ret2
  exact ⟨rfl, HF3.out⟩
set_option maxRecDepth 100000 in
set_option maxHeartbeats 1000000 in
theorem turn_none {t : Ty} (h : rightF t = true) (w : World) (op : ByteArray) (a : Nat) (n1 : ¬ ((op = sTil ∧ 1 < t.1) ∨ (op = sNot ∧ t.1 = 1))) (n2 : ¬ (op = sSub ∧ 1 < t.1)) :
    Calls Tryz.prog 36 #[.agg #[.int .i64 t.1, .bool t.2], .string op, .int .u64 a] w fun e w' => e = .returned (.tuple #[.int .u64 0, .int .i64 12]) ∧ Frm (fun _ => False) w w' := by
  have hF := Lib.hid (frm_alloc w (.cells #[.int .i64 t.1, .bool t.2] 23))
  have HB := Lib.hid (TmW.Box.new w t)
  have ⟨b0, b1⟩ := (TmW.Box.new w t).cells
  have HR := Lib.hid fun w1 => right_at w1 h
  clear h
  by_cases e1 : op = sTil
  · subst e1
    have hle : ¬ 1 < t.1 := fun h => n1 (.inl ⟨rfl, h⟩)
    clear n1 n2
    go_enter Tryz.func36, Tryz.ntmps36
    go_wp2_with fail
    refine (HR.out _).mono ?_
    rintro e w1 ⟨rfl, hf⟩
    have HB1 := Lib.hid (TmW.Box.frm0 HB.out hf)
    have ⟨c0, c1⟩ := (TmW.Box.frm0 HB.out hf).cells
    have HF1 := Lib.hid (frm_then hF.out hf)
    clear hf b0 b1
    try simp only at c0 c1
    go_wp2
    go_ret2
    exact ⟨rfl, HF1.out⟩
  by_cases e2 : op = sNot
  · subst e2
    have hle : (t.1 == 1) = false := by simp; exact fun h => n1 (.inr ⟨rfl, h⟩)
    clear n1 n2 e1
    go_enter Tryz.func36, Tryz.ntmps36
    go_wp2_with fail
    refine (HR.out _).mono ?_
    rintro e w1 ⟨rfl, hf⟩
    have HB1 := Lib.hid (TmW.Box.frm0 HB.out hf)
    have ⟨c0, c1⟩ := (TmW.Box.frm0 HB.out hf).cells
    have HF1 := Lib.hid (frm_then hF.out hf)
    clear hf b0 b1
    try simp only at c0 c1
    go_wp2
    go_ret2
    exact ⟨rfl, HF1.out⟩
  have d1 : (op.toList == [126]) = false := by rw [eqS]; simpa using e1
  have d2 : (op.toList == [33]) = false := by rw [eqS]; simpa using e2
  by_cases e3 : op = sSub
  · subst e3
    have hle : ¬ 1 < t.1 := fun h => n2 ⟨rfl, h⟩
    clear n1 n2 e1 e2
    go_enter Tryz.func36, Tryz.ntmps36
    go_wp2_with fail
    refine (HR.out _).mono ?_
    rintro e w1 ⟨rfl, hf⟩
    have HB1 := Lib.hid (TmW.Box.frm0 HB.out hf)
    have ⟨c0, c1⟩ := (TmW.Box.frm0 HB.out hf).cells
    have HF1 := Lib.hid (frm_then hF.out hf)
    clear hf b0 b1
    try simp only at c0 c1
    go_wp2
    go_ret2
    exact ⟨rfl, HF1.out⟩
  have d3 : (op.toList == [45]) = false := by rw [eqS]; simpa using e3
  clear n1 n2 e1 e2 e3
  go_enter Tryz.func36, Tryz.ntmps36
  go_wp2_with fail
  refine (HR.out _).mono ?_
  rintro e w1 ⟨rfl, hf⟩
  have HB1 := Lib.hid (TmW.Box.frm0 HB.out hf)
  have ⟨c0, c1⟩ := (TmW.Box.frm0 HB.out hf).cells
  have HF1 := Lib.hid (frm_then hF.out hf)
  clear hf b0 b1
  try simp only at c0 c1
  go_wp2
  go_ret2
  exact ⟨rfl, HF1.out⟩
theorem Turn_calls (w : World) (t : Ty) (op : ByteArray) (a : Nat) (ha : a < 2 ^ 64) :
    Calls Tryz.prog 36 #[.agg #[.int .i64 t.1, .bool t.2], .string op, .int .u64 a] w fun e w' => e = .returned (.tuple #[.int .u64 (turnF t op a).1, .int .i64 (turnF t op a).2]) ∧ Frm (fun _ => False) w w' := by
  rw [← turn_eq t op a ha]
  unfold turnR
  by_cases h : rightF t = true
  · rw [if_pos h]
    by_cases h1 : (op = sTil ∧ 1 < t.1) ∨ (op = sNot ∧ t.1 = 1)
    · rw [if_pos h1]; exact turn_not h w op a ha h1
    · rw [if_neg h1]
      by_cases h2 : op = sSub ∧ 1 < t.1
      · rw [if_pos h2, h2.1]; exact turn_neg h w a ha h2.2
      · rw [if_neg h2]; exact turn_none h w op a h1 h2
  · rw [if_neg h]
    have hF := Lib.hid (frm_alloc w (.cells #[.int .i64 t.1, .bool t.2] 23))
    have ⟨b0, b1⟩ := (TmW.Box.new w t).cells
    have HR := Lib.hid fun w1 => right_at w1 (show rightF t = false by simpa using h)
    clear h ha
    go_enter Tryz.func36, Tryz.ntmps36
    go_wp2_with fail
    refine (HR.out _).mono ?_
    rintro e w1 ⟨rfl, hf⟩
    have HF1 := Lib.hid (frm_then hF.out hf)
    clear hf
    go_wp2
    go_ret2
    exact ⟨rfl, HF1.out⟩
end RfW
end Go.Proofs.YtbbajekecppioaaGreatDoor
