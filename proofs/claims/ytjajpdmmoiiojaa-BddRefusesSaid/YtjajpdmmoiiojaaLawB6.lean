/- The statements, walked: BddRefuses. -/
import Derived.Test.YtjajpdmmoiiojaaLawW6
import Derived.Test.YtjajpdmmoiiojaaBddW14
import Derived.Test.YtjajpdmmoiiojaaP8
namespace Go.Bdd
open Go.Mem Go.RowKit
def nodeF (inn : Bool) (x : Int) (ok : Bool) : Bool := if inn then (x == 0) == ok && (ok || x == 91) else x == 92
structure Refuses (s : Sto) (f v : Int) (inn has z : Bool) : Prop where
  na : ∃ r, IteF 10 s f 0 1 = some (r, s) ∧ nodeF inn r.2 true = true
  nb : ∃ r, existsF 10 s f [v] = some (r, s) ∧ nodeF inn r.2 has = true
  nc : ∃ r, countF 10 s f = some r ∧ nodeF inn r.2 true = true
  nd : ∃ r, sizeF 10 s f = some r ∧ nodeF inn r.2 true = true
  ne : ∃ r, evalF 10 s f [] = some r ∧ nodeF inn r.2 z = true
  np : ∃ r, pickF 10 s f = some r ∧ (r.2 == 0) = (f == 1)
  nr : ∃ r, renameF 10 s f [] = some (r, s) ∧ nodeF inn r.2 z = true
  nv : ∃ r s', varF s v = (r, s') ∧ (r.2 == 0) = has ∧ (has || r.2 == 91) = true
theorem refuses_res {vars : Int} (h0 : 0 ≤ vars) (f v : Int) : Refuses (sto0 vars 50) f v (decide (0 ≤ f) && decide (f < 2)) (decide (0 ≤ v) && decide (v < vars)) (vars == 0) := by
  have hin : inB (sto0 vars 50) f = (decide (0 ≤ f) && decide (f < 2)) := by simp [inB, sto0]
  have hbad : badVar (sto0 vars 50) v = !(decide (0 ≤ v) && decide (v < vars)) := by
    show decide (v < 0 ∨ vars ≤ v) = _
    by_cases h1 : 0 ≤ v
    · by_cases h2 : v < vars
      · rw [decide_eq_true h1, decide_eq_true h2, decide_eq_false (by omega)]; rfl
      · rw [decide_eq_false h2, decide_eq_true (by omega : v < 0 ∨ vars ≤ v)]; simp
    · rw [decide_eq_false h1, decide_eq_true (by omega : v < 0 ∨ vars ≤ v)]; rfl
  have i0 := inv0 (room := 50) h0 (by omega)
  generalize hhas : (decide (0 ≤ v) && decide (v < vars)) = has at *
  cases hinn : (decide (0 ≤ f) && decide (f < 2)) with
  | false =>
    rw [hinn] at hin
    have hf1 : (f == 1) = false := by
      refine beq_false_of_ne fun h => ?_
      subst h; simp at hinn
    refine ⟨⟨(0, 92), by simp [IteF, hin], rfl⟩, ⟨(0, 92), by simp [existsF, hin], rfl⟩, ⟨(0, 92), by simp [countF, hin], rfl⟩, ⟨(0, 92), by simp [sizeF, hin], rfl⟩, ⟨(false, 92), by simp [evalF, hin], rfl⟩, ⟨([], 92), by simp [pickF, hin], by rw [hf1]; rfl⟩, ⟨(0, 92), by simp [renameF, hin], rfl⟩, ?_⟩
    unfold varF
    cases has with
    | true =>
      have : ¬ (v < 0 ∨ (sto0 vars 50).vars ≤ v) := by simpa [badVar] using hbad
      rw [if_neg this]
      exact ⟨_, _, rfl, rfl, rfl⟩
    | false =>
      have : v < 0 ∨ (sto0 vars 50).vars ≤ v := by simpa [badVar] using hbad
      rw [if_pos this]
      exact ⟨_, _, rfl, rfl, rfl⟩
  | true =>
    rw [hinn] at hin
    have h01 : f = 0 ∨ f = 1 := by simp at hinn; omega
    have hl0 : inB (sto0 vars 50) 0 = true := by simp [inB, sto0]
    have hl1 : inB (sto0 vars 50) 1 = true := by simp [inB, sto0]
    refine ⟨?_, ?_, ?_, ?_, ?_, ?_, ?_, ?_⟩
    · rcases h01 with rfl | rfl
      · exact ⟨(1, 0), by simp [IteF, hin, hl1, iteF], rfl⟩
      · exact ⟨(0, 0), by simp [IteF, hin, hl0, iteF], rfl⟩
    · cases has with
      | true =>
        refine ⟨(f, 0), ?_, rfl⟩
        unfold existsF
        rw [if_neg (by rw [hin]; simp), if_neg (by simp [hbad])]
        unfold overF
        rw [if_pos (by omega)]; rfl
      | false =>
        refine ⟨(0, 91), ?_, rfl⟩
        unfold existsF
        rw [if_neg (by rw [hin]; simp), if_pos (by simp [hbad])]
    · rcases h01 with rfl | rfl
      · exact ⟨(0, 0), by simp [countF, hin, fromF], rfl⟩
      · exact ⟨(_, 0), by simp [countF, hin, fromF, nth, sto0, mget]; rfl, rfl⟩
    · refine ⟨(0, 0), ?_, rfl⟩
      unfold sizeF
      rw [if_neg (by rw [hin]; simp)]
      unfold overF
      rw [if_pos (by omega)]; rfl
    · by_cases hz : vars = 0
      · subst hz
        refine ⟨(f == 1, 0), ?_, rfl⟩
        unfold evalF
        rw [if_neg (by rw [hin]; simp), if_neg (by simp [sto0])]
        unfold evalL
        rw [if_pos (by omega)]; rfl
      · refine ⟨(false, 91), ?_, by simp [nodeF, hz]⟩
        unfold evalF
        rw [if_neg (by rw [hin]; simp), if_pos (by simp [sto0]; omega)]
    · rcases h01 with rfl | rfl
      · exact ⟨([], 92), by simp [pickF], rfl⟩
      · exact ⟨(_, 0), by simp [pickF, hin, pickL]; rfl, rfl⟩
    · by_cases hz : vars = 0
      · subst hz
        refine ⟨(f, 0), ?_, rfl⟩
        unfold renameF
        rw [if_neg (by rw [hin]; simp), if_neg (by simp [sto0])]
        have hs : supportF 10 (sto0 0 50) f = some [] := by
          unfold supportF overF
          rw [if_pos (by omega)]; rfl
        rw [hs]
        simp only [List.map_nil, clash, Bool.false_eq_true, if_false]
        unfold overF
        rw [if_pos (by omega)]; rfl
      · refine ⟨(0, 91), ?_, by simp [nodeF, hz]⟩
        unfold renameF
        rw [if_neg (by rw [hin]; simp), if_pos (.inl (by simp [sto0]; omega))]
    · unfold varF
      cases has with
      | true =>
        have : ¬ (v < 0 ∨ (sto0 vars 50).vars ≤ v) := by simpa [badVar] using hbad
        rw [if_neg this]
        exact ⟨_, _, rfl, rfl, rfl⟩
      | false =>
        have : v < 0 ∨ (sto0 vars 50).vars ≤ v := by simpa [badVar] using hbad
        rw [if_pos this]
        exact ⟨_, _, rfl, rfl, rfl⟩
theorem support0 {vars f : Int} {out : List (Int × Int)} (h : supportF 10 (sto0 vars 50) f = some out) : out = [] := by
  unfold supportF overF at h
  by_cases h2 : f < 2
  · rw [if_pos h2] at h
    simpa using h.symm
  · rw [if_neg h2] at h
    have hn : nth (sto0 vars 50).l f = none := by
      unfold nth
      rw [if_pos (by omega)]
      simp [sto0]; omega
    simp [mget, hn] at h
end Go.Bdd
namespace Go.Proofs.Ytjajpdmmoiiojaa
open Go.RowKit Go.Mem Go.Bdd
namespace LawW
open TabW BddW

set_option maxRecDepth 100000 in
theorem node_calls (x : Int) (ok inn : Bool) (b : Nat) (w : World) (hb : w.heap[b]? = some (.cells #[.bool inn] 4 (0, 0))) (hn : nodeF inn x ok = true) :
    Calls Try.prog 34 #[.int .i64 x, .bool ok, .pointer (some ⟨b, 0, none⟩)] w fun e w' => e = .returned (.bool true) ∧ w = w' := by
  have c0 : w.cell? ⟨b, 0, none⟩ = some (.bool inn) := blk_cell hb 0
  clear hb
  cases inn with
  | false =>
    have h92 : (x == 92) = true := by simpa [nodeF] using hn
    clear hn
    go_enter Try.func34, Try.ntmps34
    go_wp2
    go_ret
    exact ⟨rfl, rfl⟩
  | true =>
    cases ok with
    | true =>
      have h0 : (x == 0) = true := by simpa [nodeF] using hn
      clear hn
      go_enter Try.func34, Try.ntmps34
      go_wp2
      go_ret
      exact ⟨rfl, rfl⟩
    | false =>
      have h0 : (x == 0) = false ∧ (x == 91) = true := by simpa [nodeF] using hn
      obtain ⟨h0, h91⟩ := h0
      clear hn
      go_enter Try.func34, Try.ntmps34
      go_wp2
      go_ret
      exact ⟨rfl, rfl⟩

set_option maxRecDepth 100000 in
set_option maxHeartbeats 2000000 in
theorem refuses_out (vars f v : Int) (hv : ¬ (0 ≤ vars ∧ vars ≤ 256)) (w : World) : Calls Try.prog 9 #[.int .i64 vars, .int .i64 f, .int .i64 v] w fun e w' => e = .returned (.bool true) ∧ Below w.heap.size w w' := by
  have HN := Lib.hid (New_no w vars 50 (.inl hv))
  rw [if_neg hv] at HN
  have HAW := Lib.hid (awake_calls w)
  by_cases h0 : vars < 0
  · clear hv
    go_enter Try.func9, Try.ntmps9
    go_wp2_with fail
    refine HN.out.mono ?_
    rintro e w' ⟨rfl, rfl⟩
    go_wp2_with fail
    refine HAW.out.mono ?_
    rintro e w2 ⟨rfl, hf2⟩
    have HF := Lib.hid hf2
    clear hf2
    go_wp2
    go_ret
    exact ⟨rfl, HF.out.below⟩
  · have h1 : vars > 256 := by omega
    clear hv
    go_enter Try.func9, Try.ntmps9
    go_wp2_with fail
    refine HN.out.mono ?_
    rintro e w' ⟨rfl, rfl⟩
    go_wp2_with fail
    refine HAW.out.mono ?_
    rintro e w2 ⟨rfl, hf2⟩
    have HF := Lib.hid hf2
    clear hf2
    go_wp2
    go_ret
    exact ⟨rfl, HF.out.below⟩

end LawW
end Go.Proofs.Ytjajpdmmoiiojaa
