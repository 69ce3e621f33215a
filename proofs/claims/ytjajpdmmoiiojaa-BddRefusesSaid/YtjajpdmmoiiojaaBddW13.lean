/- Package bdd, walked on: Rename. -/
import Derived.Test.YtjajpdmmoiiojaaBddW12
import Derived.Deep.LoopGhost
namespace Go.Bdd
open Go.Mem
def RenInv (to keys done left : List Int) (taken : List (Int × Int)) : Prop :=
  (done ++ left).Perm keys ∧ done.Pairwise (fun u v => nth to u ≠ nth to v) ∧ ∀ t, (mget taken t).isSome = true ↔ ∃ u ∈ done, nth to u = some t
theorem clash_pair (to : List Int) : ∀ l : List Int, clash to l = false ↔ l.Pairwise (fun u v => nth to u ≠ nth to v)
  | [] => by simp [clash]
  | v :: r => by
    rw [clash, Bool.or_eq_false_iff, clash_pair to r, List.pairwise_cons]
    refine and_congr_left fun _ => ?_
    rw [List.any_eq_false]
    constructor
    · intro h u hu e; exact h u hu (by simp [e])
    · intro h u hu e; exact h u hu (by simpa using e : nth to u = nth to v).symm
theorem clash_perm {to l l' : List Int} (h : l.Perm l') : clash to l = clash to l' := by
  have : clash to l = false ↔ clash to l' = false := by
    rw [clash_pair, clash_pair]
    exact h.pairwise_iff fun hxy => fun e => hxy e.symm
  cases h1 : clash to l <;> cases h2 : clash to l' <;> simp_all
theorem renInv_start (to keys : List Int) : RenInv to keys [] keys [] := ⟨by simp, by simp, by simp [mget]⟩
theorem renInv_hit {to keys done A B : List Int} {taken : List (Int × Int)} {v t : Int} (h : RenInv to keys done (A ++ v :: B) taken) (hv : nth to v = some t) (ht : (mget taken t).isSome = true) : clash to keys = true := by
  obtain ⟨h1, h2, h3⟩ := h
  obtain ⟨u, hu, hut⟩ := (h3 t).1 ht
  rw [← clash_perm h1]
  cases hc : clash to (done ++ (A ++ v :: B)) with
  | true => rfl
  | false =>
    rw [clash_pair, List.pairwise_append] at hc
    exact absurd (hut.trans hv.symm) (hc.2.2 u hu v (by simp))
theorem renInv_miss {to keys done A B : List Int} {taken : List (Int × Int)} {v t : Int} (h : RenInv to keys done (A ++ v :: B) taken) (hv : nth to v = some t) (ht : (mget taken t).isSome = false) (x : Int) : RenInv to keys (v :: done) (A ++ B) (mput taken t x) := by
  obtain ⟨h1, h2, h3⟩ := h
  refine ⟨?_, ?_, ?_⟩
  · refine List.Perm.trans ?_ h1
    have : (v :: done ++ (A ++ B)).Perm (done ++ (v :: (A ++ B))) := by
      simpa using (List.perm_middle (a := v) (l₁ := done) (l₂ := A ++ B)).symm
    refine this.trans (List.Perm.append_left done ?_)
    exact List.perm_middle.symm
  · rw [List.pairwise_cons]
    refine ⟨fun u hu e => ?_, h2⟩
    have := (h3 t).2 ⟨u, hu, e.symm.trans hv⟩
    rw [ht] at this; cases this
  · intro t'
    rw [mget_mput]
    by_cases he : t = t'
    · subst he; simp [hv]
    · rw [if_neg he, h3 t']
      constructor
      · rintro ⟨u, hu, h⟩; exact ⟨u, List.mem_cons_of_mem _ hu, h⟩
      · rintro ⟨u, hu, h⟩
        rcases List.mem_cons.1 hu with rfl | hu
        · rw [hv] at h; cases h; exact absurd rfl he
        · exact ⟨u, hu, h⟩
theorem renInv_end {to keys done : List Int} {taken : List (Int × Int)} (h : RenInv to keys done [] taken) : clash to keys = false := by
  rw [← clash_perm h.1, List.append_nil, clash_pair]; exact h.2.1
theorem renInv_mem {to keys done A B : List Int} {taken : List (Int × Int)} {v : Int} (h : RenInv to keys done (A ++ v :: B) taken) : v ∈ keys := h.1.mem_iff.1 (by simp)
end Go.Bdd
namespace Go.Proofs.Ytjajpdmmoiiojaa
open Go.RowKit Go.Mem Go.Bdd
namespace BddW

set_option maxRecDepth 100000 in
set_option maxHeartbeats 2000000 in
theorem Rename_bad {w : World} {own : Nat → Prop} {p : Nat} {s : Sto} (hS : StoreAt w own p s) (k : Nat) (f : Int) (vv : Value) (to : List Int) (hv : Sees w (Value.int .i64) vv to)
    (hb : inB s f = false ∨ (to.length : Int) ≠ s.vars ∨ to.any (badVar s) = true) :
    Calls Try.prog 32 #[.pointer (some ⟨p, 0, none⟩), .int .i64 f, vv] w (StPost own w p (.tuple #[.int .i64 0, .int .i64 (if inB s f = false then 92 else 91)]) s) := by
  have hmf : ∀ (fn : Fn) (first cap : Array Value) (w : World), (Instr.makeFunc fn first cap).run Try.prog w = .ok (.func fn first cap) w := fun _ _ _ _ => rfl
  have hnot : ∀ (x : Bool) (w : World), (Op.unary .not (.bool x)).run Try.prog w = .ok (.bool (!x)) w := fun _ _ => rfl
  have hlen : to.length ≤ maxLen := hv.len
  obtain ⟨A, c, rfl⟩ : ∃ A c, vv = .slice A to.length c := by
    rcases hv with ⟨e, rfl⟩ | ⟨g, o, c, e, _⟩
    · exact ⟨none, 0, e⟩
    · exact ⟨_, c, e⟩
  have hF1 : Frm (fun _ => False) w ((w.alloc (.cells #[.pointer (some ⟨p, 0, none⟩)] 23)).alloc (.cells #[(.slice A to.length c)] 28)) := ((Frm.refl _ _).alloc _).alloc _
  have hps : ((w.alloc (.cells #[.pointer (some ⟨p, 0, none⟩)] 23)).alloc (.cells #[(.slice A to.length c)] 28)).heap[w.heap.size]? = some (.cells #[.pointer (some ⟨p, 0, none⟩)] 23) := blk_alloc (blk_new _) _
  have hpv : ((w.alloc (.cells #[.pointer (some ⟨p, 0, none⟩)] 23)).alloc (.cells #[(.slice A to.length c)] 28)).heap[w.heap.size + 1]? = some (.cells #[(.slice A to.length c)] 28 (0, 0)) := blk_new_at _ (by simp)
  have hF2 : Frm (fun _ => False) ((w.alloc (.cells #[.pointer (some ⟨p, 0, none⟩)] 23)).alloc (.cells #[(.slice A to.length c)] 28)) (((w.alloc (.cells #[.pointer (some ⟨p, 0, none⟩)] 23)).alloc (.cells #[(.slice A to.length c)] 28)).alloc (.cells #[.int .i64 f] 3)) := (Frm.refl _ _).alloc _
  have hS2 : StoreAt (((w.alloc (.cells #[.pointer (some ⟨p, 0, none⟩)] 23)).alloc (.cells #[(.slice A to.length c)] 28)).alloc (.cells #[.int .i64 f] 3)) own p s := hS.frm (hF1.trans hF2 fun _ _ => id) fun _ _ => id
  have hse2 : Sees (((w.alloc (.cells #[.pointer (some ⟨p, 0, none⟩)] 23)).alloc (.cells #[(.slice A to.length c)] 28)).alloc (.cells #[.int .i64 f] 3)) (Value.int .i64) (.slice (some ⟨w.heap.size + 1 + 1, 0, none⟩) 1 1) [f] := sees_of_blk (blk_new_at (.cells #[.int .i64 f] 3) (by simp)) rfl rfl (by decide)
  have Hh := Lib.hid (has_calls hS2 (.slice (some ⟨w.heap.size + 1 + 1, 0, none⟩) 1 1) [f] hse2)
  have hF3 : Frm (fun _ => False) (((w.alloc (.cells #[.pointer (some ⟨p, 0, none⟩)] 23)).alloc (.cells #[(.slice A to.length c)] 28)).alloc (.cells #[.int .i64 f] 3)) ((((w.alloc (.cells #[.pointer (some ⟨p, 0, none⟩)] 23)).alloc (.cells #[(.slice A to.length c)] 28)).alloc (.cells #[.int .i64 f] 3)).alloc (.cells #[.pointer (some ⟨p, 0, none⟩)] 23)) := (Frm.refl _ _).alloc _
  have hF03 : Frm (fun _ => False) w ((((w.alloc (.cells #[.pointer (some ⟨p, 0, none⟩)] 23)).alloc (.cells #[(.slice A to.length c)] 28)).alloc (.cells #[.int .i64 f] 3)).alloc (.cells #[.pointer (some ⟨p, 0, none⟩)] 23)) := (hF1.trans hF2 fun _ _ => id).trans hF3 fun _ _ => id
  have hF13 : Frm (fun _ => False) ((w.alloc (.cells #[.pointer (some ⟨p, 0, none⟩)] 23)).alloc (.cells #[(.slice A to.length c)] 28)) ((((w.alloc (.cells #[.pointer (some ⟨p, 0, none⟩)] 23)).alloc (.cells #[(.slice A to.length c)] 28)).alloc (.cells #[.int .i64 f] 3)).alloc (.cells #[.pointer (some ⟨p, 0, none⟩)] 23)) := hF2.trans hF3 fun _ _ => id
  have hS3 : StoreAt ((((w.alloc (.cells #[.pointer (some ⟨p, 0, none⟩)] 23)).alloc (.cells #[(.slice A to.length c)] 28)).alloc (.cells #[.int .i64 f] 3)).alloc (.cells #[.pointer (some ⟨p, 0, none⟩)] 23)) own p s := hS.frm hF03 fun _ _ => id
  have hps3 := blk_frm hps hF13 id
  have hpv3 := blk_frm hpv hF13 id
  have hv3 := hv.frm hF03 fun _ _ _ => id
  have hM3 : Moves own w own ((((w.alloc (.cells #[.pointer (some ⟨p, 0, none⟩)] 23)).alloc (.cells #[(.slice A to.length c)] 28)).alloc (.cells #[.int .i64 f] 3)).alloc (.cells #[.pointer (some ⟨p, 0, none⟩)] 23)) := .of_frm (hF03.mono fun _ _ h => h.elim) fun _ h => .inl h
  cases hin : inB s f with
  | false =>
    have hall : [f].all (inB s) = false := by simp [hin]
    rw [hall] at Hh
    have hfin := Lib.hid (show StPost own w p (.tuple #[.int .i64 0, .int .i64 92]) s (.returned (.tuple #[.int .i64 0, .int .i64 92])) ((((w.alloc (.cells #[.pointer (some ⟨p, 0, none⟩)] 23)).alloc (.cells #[(.slice A to.length c)] 28)).alloc (.cells #[.int .i64 f] 3)).alloc (.cells #[.pointer (some ⟨p, 0, none⟩)] 23)) from ⟨rfl, own, hS3, hM3⟩)
    clear hS hF1 hps hpv hF2 hS2 hse2 hF3 hF03 hF13 hS3 hps3 hpv3 hv3 hM3 hall hin hv hb
    go_enter Try.func32, Try.ntmps32
    go_wp2_with fail
    refine Hh.out.mono ?_
    rintro e w' ⟨rfl, rfl⟩
    go_wp2
    go_ret2
    exact hfin.out
  | true =>
    have hall : [f].all (inB s) = true := by simp [hin]
    rw [hall] at Hh
    have hfin := Lib.hid (show StPost own w p (.tuple #[.int .i64 0, .int .i64 91]) s (.returned (.tuple #[.int .i64 0, .int .i64 91])) ((((w.alloc (.cells #[.pointer (some ⟨p, 0, none⟩)] 23)).alloc (.cells #[(.slice A to.length c)] 28)).alloc (.cells #[.int .i64 f] 3)).alloc (.cells #[.pointer (some ⟨p, 0, none⟩)] 23)) from ⟨rfl, own, hS3, hM3⟩)
    have q0 : ((((w.alloc (.cells #[.pointer (some ⟨p, 0, none⟩)] 23)).alloc (.cells #[(.slice A to.length c)] 28)).alloc (.cells #[.int .i64 f] 3)).alloc (.cells #[.pointer (some ⟨p, 0, none⟩)] 23)).cell? ⟨w.heap.size, 0, none⟩ = some (.pointer (some ⟨p, 0, none⟩)) := blk_cell hps3 0
    have q1 : ((((w.alloc (.cells #[.pointer (some ⟨p, 0, none⟩)] 23)).alloc (.cells #[(.slice A to.length c)] 28)).alloc (.cells #[.int .i64 f] 3)).alloc (.cells #[.pointer (some ⟨p, 0, none⟩)] 23)).cell? ⟨w.heap.size + 1, 0, none⟩ = some (.slice A to.length c) := blk_cell hpv3 0
    have q2 := hS3.vars_cell
    by_cases hl : (to.length : Int) = s.vars
    · have hbad : to.any (badVar s) = true := by
        rcases hb with h | h | h
        · rw [hin] at h; cases h
        · exact absurd hl h
        · exact h
      have hbl : ((to.length : Int) != s.vars) = false := by simp [hl]
      have Hc := Lib.hid (Sl.containsFunc_calls 51 #[.pointer (some ⟨w.heap.size, 0, none⟩)] (badVar s) (.slice A to.length c) to ((((w.alloc (.cells #[.pointer (some ⟨p, 0, none⟩)] 23)).alloc (.cells #[(.slice A to.length c)] 28)).alloc (.cells #[.int .i64 f] 3)).alloc (.cells #[.pointer (some ⟨p, 0, none⟩)] 23)).drew (hv3.frm ((Frm.refl _ _).drew) fun _ _ _ => id)
        (fun x w' => call_enter (P := Try.prog) (f := 51) Try.func51 (by kernel_rfl) rfl _ w') (fun x => rename1_calls (hS3.frm (Frm.refl (fun _ => False) _).drew fun _ _ => id) hps3 x))
      rw [hbad] at Hc
      have hfin := Lib.hid (show StPost own w p (.tuple #[.int .i64 0, .int .i64 91]) s (.returned (.tuple #[.int .i64 0, .int .i64 91])) ((((w.alloc (.cells #[.pointer (some ⟨p, 0, none⟩)] 23)).alloc (.cells #[(.slice A to.length c)] 28)).alloc (.cells #[.int .i64 f] 3)).alloc (.cells #[.pointer (some ⟨p, 0, none⟩)] 23)).drew from ⟨rfl, own, hS3.frm (Frm.refl (fun _ => False) _).drew fun _ _ => id, .of_frm hM3.1.drew hM3.2⟩)
      clear hS hF1 hps hpv hF2 hS2 hse2 hF3 hF03 hF13 hS3 hps3 hpv3 hv3 hM3 hall hin hv hb hl hbad
      go_enter Try.func32, Try.ntmps32
      go_wp2_with fail
      refine Hh.out.mono ?_
      rintro e w' ⟨rfl, rfl⟩
      go_wp2
      refine Plan.wp_region_plan [0, 1, 0, 4, 12, 28, 63, 127, 255, 255, 1023, 2047] (List.cons (Plan.Seg.mk (List.cons 0 (List.cons 1 (List.cons 2 (List.cons 3 (List.cons 4 (List.cons 5 (List.cons 6 (List.cons 7 (List.cons 8 (List.cons 9 List.nil)))))))))) 10 List.nil) List.nil) (List.cons 11 List.nil) (by kernel_rfl) (by kernel_rfl) ?_
      simp only [Plan.wayOf, Plan.pickAll, List.getElem?_cons_zero, List.getElem?_cons_succ, List.getD_eq_getElem?_getD, Option.getD_some]
      refine Plan.wpWay_seg ?_
      repeat go_big_quiet_step (fail)
      refine wpQuiet_nil ?_
      refine Plan.wpWay_act ?_
      go_wp2_with fail
      refine Hc.out.mono ?_
      rintro e w' ⟨rfl, rfl⟩
      go_wp2_with fail
      refine And.intro Plan.again_nil ?_
      refine Plan.wpWay_last ?_
      repeat go_big_quiet_step (fail)
      refine wpQuiet_nil ?_
      refine NoPanic.normal ?_
      go_wp2
      go_ret2
      exact hfin.out
    · have hbl : ((to.length : Int) != s.vars) = true := by simp [hl]
      have hfin := Lib.hid (show StPost own w p (.tuple #[.int .i64 0, .int .i64 91]) s (.returned (.tuple #[.int .i64 0, .int .i64 91])) ((((w.alloc (.cells #[.pointer (some ⟨p, 0, none⟩)] 23)).alloc (.cells #[(.slice A to.length c)] 28)).alloc (.cells #[.int .i64 f] 3)).alloc (.cells #[.pointer (some ⟨p, 0, none⟩)] 23)).drew from ⟨rfl, own, hS3.frm (Frm.refl (fun _ => False) _).drew fun _ _ => id, .of_frm hM3.1.drew hM3.2⟩)
      clear hS hF1 hps hpv hF2 hS2 hse2 hF3 hF03 hF13 hS3 hps3 hpv3 hv3 hM3 hall hin hv hb hl
      go_enter Try.func32, Try.ntmps32
      go_wp2_with fail
      refine Hh.out.mono ?_
      rintro e w' ⟨rfl, rfl⟩
      go_wp2
      refine Plan.wp_region_plan [0, 1, 0, 4, 12, 28, 63, 127, 255, 255, 1023, 2047] (List.cons (Plan.Seg.mk (List.cons 0 (List.cons 1 (List.cons 2 (List.cons 3 (List.cons 4 (List.cons 5 (List.cons 6 (List.cons 7 (List.cons 8 (List.cons 9 List.nil)))))))))) 10 List.nil) List.nil) (List.cons 11 List.nil) (by kernel_rfl) (by kernel_rfl) ?_
      simp only [Plan.wayOf, Plan.pickAll, List.getElem?_cons_zero, List.getElem?_cons_succ, List.getD_eq_getElem?_getD, Option.getD_some]
      refine Plan.wpWay_seg ?_
      repeat go_big_quiet_step (fail)
      refine wpQuiet_nil ?_
      refine Plan.wpWay_act ?_
      go_wp2_with (fail)
      refine And.intro Plan.again_nil ?_
      refine Plan.wpWay_last ?_
      repeat go_big_quiet_step (fail)
      refine wpQuiet_nil ?_
      refine NoPanic.normal ?_
      go_wp2
      go_ret2
      exact hfin.out
end BddW
end Go.Proofs.Ytjajpdmmoiiojaa
