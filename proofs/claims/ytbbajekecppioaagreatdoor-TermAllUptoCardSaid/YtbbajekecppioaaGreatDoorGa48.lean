/- TermAll: what is true where all of some terms are is the document's. Where what comes in is of bulk at most 1048576. -/
import Derived.Test.YtbbajekecppioaaGreatDoorGa47
import Derived.Test.YtbbajekecppioaaGreatDoorGa44
import Derived.Test.YtbbajekecppioaaGreatDoorCards
import Derived.Test.YtbbajekecppioaaGreatDoorTie
import Derived.WalkKit
set_option linter.unusedSimpArgs false
set_option linter.unusedVariables false
/- TermAll walked. -/
namespace Go.Proofs.YtbbajekecppioaaGreatDoor
open Go.RowKit Go.Mem Go.Wd Go.Tp
namespace LawT
open TmW (frm_alloc frm_then frm_cellD frm_cell VRow PoolAt PMoves Env buildF typeX evalX TypesOk countX countL Built build_ok moves_pre New_calls inP typeF AllF PAll_calls All_law truthF bits_and_u64 is64)
open RfW (TreeV VarsIn IsIn KidsAt countL_mem sees_slice)
/-- A tree of the slice, wherever it is read. -/
theorem kid_read {W : World} {XA : Option Addr} {l : List Tree} {k : Nat} {x : Tree} (hk : KidsAt W W.heap.size XA 0 l) (hx : l[k]? = some x) : ∃ g o a0 a1 a2 a3 a4 a5 a6 a7 a8, XA = some ⟨g, o, none⟩ ∧ TreeV W W.heap.size (.agg #[a0, a1, a2, a3, a4, a5, a6, a7, a8]) x ∧ ∀ w1, Frm (fun _ => False) W w1 → w1.cell? ⟨g, o + k * 9, none⟩ = some a0 ∧ w1.cell? ⟨g, o + k * 9 + 1, none⟩ = some a1 ∧ w1.cell? ⟨g, o + k * 9 + 2, none⟩ = some a2 ∧ w1.cell? ⟨g, o + k * 9 + 3, none⟩ = some a3 ∧ w1.cell? ⟨g, o + k * 9 + 4, none⟩ = some a4 ∧ w1.cell? ⟨g, o + k * 9 + 5, none⟩ = some a5 ∧ w1.cell? ⟨g, o + k * 9 + 6, none⟩ = some a6 ∧ w1.cell? ⟨g, o + k * 9 + 7, none⟩ = some a7 ∧ w1.cell? ⟨g, o + k * 9 + 8, none⟩ = some a8 := by
  obtain ⟨g, o, e, hT⟩ := hk.get hx
  rw [Nat.zero_add] at hT
  obtain ⟨a0, a1, a2, a3, a4, a5, a6, a7, a8, hV, c0, c1, c2, c3, c4, c5, c6, c7, c8⟩ := hT.load
  exact ⟨g, o, a0, a1, a2, a3, a4, a5, a6, a7, a8, e, hV, fun w1 hf => ⟨frm_cell hf c0, frm_cell hf c1, frm_cell hf c2, frm_cell hf c3, frm_cell hf c4, frm_cell hf c5, frm_cell hf c6, frm_cell hf c7, frm_cell hf c8⟩⟩
theorem LoopAt.all {W w' : World} {own' : Nat → Prop} {p : Nat} {sk : TPool} {Dk : Int → Nat} {vs : List Ty} {is : List Nat} {l : List Tree} {k : Nat} {tv : Value} {ids : List Int} {want : Nat} {bools : Bool} (h : LoopAt W w' own' p sk Dk vs is l k tv ids want bools) : bools = true ↔ ∀ f ∈ ids, (typeF sk f).1 = 1 := by
  have h1 : bools = (ids.map (typeF sk)).all fun t => t.1 == 1 := by rw [h.typs, h.boolsE, List.all_map]; rfl
  rw [h1, List.all_eq_true]
  constructor
  · intro h f hf
    simpa using h (typeF sk f) (List.mem_map_of_mem hf)
  · intro h t ht
    obtain ⟨f, hf, rfl⟩ := List.mem_map.1 ht
    simpa using h f hf
theorem zeroT (w : World) : (zeroValue 31).run Tryz.prog w = .ok (.agg #[.string .empty, .int .i64 0, .bool false, .int .u64 0, .int .i64 0, .bool false, .int .i64 0, .int .i64 0, .slice none 0 0, .slice none 0 0, .slice none 0 0]) w := by kernel_rfl
set_option maxRecDepth 100000 in
set_option maxHeartbeats 4000000 in
theorem all_walk (W : World) (hE : Env W) (XA VA IA : Option Addr) (XC VC IC : Nat) (l : List Tree) (vs : List Ty) (is : List Nat) (hk : KidsAt W W.heap.size XA 0 l) (hm : l.length ≤ maxLen) (hcnt : countL l ≤ 4194304) (hv : VarsIn W W.heap.size (.slice VA vs.length VC) vs) (hi : IsIn W W.heap.size (.slice IA is.length IC) is) :
    Calls Tryz.prog 5 #[(.slice XA l.length XC), (.slice VA vs.length VC), (.slice IA is.length IC)] W fun e w' => e = .returned (.bool true) ∧ Frm (fun _ => False) W w' := by
  have hm' : l.length ≤ 9223372036854775807 := hm
  have hvl : vs.length ≤ 9223372036854775807 := by obtain ⟨_, _, _, h, _⟩ := hv; exact h
  have hil : is.length ≤ 9223372036854775807 := by obtain ⟨_, _, _, h, _⟩ := hi; exact h
  have hi64 : ∀ z ∈ is, z < 2 ^ 64 := by
    obtain ⟨_, _, _, _, h⟩ := hi
    intro z hz
    obtain ⟨i, hi, he⟩ := List.mem_iff_getElem.1 hz
    exact (h i z (by rw [List.getElem?_eq_getElem hi, he])).1
  have HE := Lib.hid hE
  have HK := Lib.hid hk
  have HV := Lib.hid hv
  have HI := Lib.hid hi
  have H64 := Lib.hid hi64
  have HC := Lib.hid hcnt
  have HN := Lib.hid (New_calls W hE)
  have H2 := Lib.hid (show 2 ≤ W.heap.size from TmW.tabIs_lt hE.pow)
  clear hE hk hv hi hi64 hcnt hm
  go_enter Tryz.func5, Tryz.ntmps5
  go_wp2_with fail
  refine HN.out.mono ?_
  rintro e w1 ⟨own0, p, rfl, hP, hlo, hf⟩
  have HP := Lib.hid hP
  have HLo := Lib.hid hlo
  have HF1 := Lib.hid hf
  clear hP hlo hf HN
  go_wp2_with fail
  refine (awake_calls _ (HE.out.frm0 HF1.out)).mono ?_
  rintro e w2 ⟨rfl, hf⟩
  have HF2 := Lib.hid (frm_then HF1.out hf)
  have HP := Lib.hid (HP.out.frm0 hf)
  clear hf HF1
  by_cases h8 : l.length ≤ 8
  case neg =>
    have t8 : (8 : Int) < (l.length : Int) := by omega
    clear h8
    go_wp2_with fail
    refine (awake_calls _ (HE.out.frm0 HF2.out)).mono ?_
    rintro e w4 ⟨rfl, hf⟩
    have HF := Lib.hid (frm_then HF2.out hf)
    clear hf
    go_wp2
    go_ret
    exact ⟨rfl, HF.out⟩
  have t8 : ¬ ((8 : Int) < (l.length : Int)) := by omega
  by_cases h10 : vs.length ≤ 10
  case neg =>
    have t10 : (10 : Int) < (vs.length : Int) := by omega
    clear h10
    go_wp2_with fail
    refine (awake_calls _ (HE.out.frm0 HF2.out)).mono ?_
    rintro e w4 ⟨rfl, hf⟩
    have HF := Lib.hid (frm_then HF2.out hf)
    clear hf
    go_wp2
    go_ret
    exact ⟨rfl, HF.out⟩
  have t10 : ¬ ((10 : Int) < (vs.length : Int)) := by omega
  by_cases hiv : is.length = vs.length
  case neg =>
    have tiv : ((is.length : Int) != (vs.length : Int)) = true := by simp; omega
    clear hiv
    go_wp2_with fail
    refine (awake_calls _ (HE.out.frm0 HF2.out)).mono ?_
    rintro e w4 ⟨rfl, hf⟩
    have HF := Lib.hid (frm_then HF2.out hf)
    clear hf
    go_wp2
    go_ret
    exact ⟨rfl, HF.out⟩
  have tiv : ((is.length : Int) != (vs.length : Int)) = false := by simp; omega
  have Hiv := Lib.hid hiv
  have Htiv := Lib.hid tiv
  have H10 := Lib.hid h10
  have H8 := Lib.hid h8
  clear hiv
  have HA := Lib.hid (show LoopAt W (w2.alloc (.cells #[] 3)) own0 p Go.Tp.empty (fun _ => 0) vs is l 0 (.slice (some ⟨w2.heap.size, 0, none⟩) 0 0) [] 1 true from
    ⟨HP.out.frm0 (frm_alloc _ _), fun b hb => HLo.out b hb, frm_then HF2.out (frm_alloc _ _), HE.out.frm0 (frm_then HF2.out (frm_alloc _ _)), TmW.good_empty _, types_empty vs, ⟨by simp, .inr ⟨w2.heap.size, 0, #[], rfl, Nat.zero_le _, blk_new _, Nat.zero_le _, Nat.zero_le _, by simp, by simp⟩⟩,
      fun g hg => (by cases hg; exact ⟨fun ho => Nat.lt_irrefl _ (HP.out.lt _ ho), HF2.out.size⟩), rfl, fun f hf => (by cases hf), rfl, rfl, rfl, by decide, rfl, by decide, H2.out⟩)
  obtain ⟨i0, hii, hz0, hz1, hz2⟩ := info_parts info_int
  clear HF2 HP HLo
  go_wp2_with fail
  go_loopw [8, 9, 10, 11] (fun v8 v9 v10 v11 w' => ∃ k : Nat, k ≤ l.length ∧ v11 = .int .i64 k ∧ ∃ own' sk Dk ids want bools, v9 = .int .u64 (want : Nat) ∧ v10 = .bool bools ∧ Hid (LoopAt W w' own' p sk Dk vs is l k v8 ids want bools)) (fun _ _ _ v11 _ => l.length - (intOf v11).toNat)
  case atStart => exact ⟨0, Nat.zero_le _, rfl, own0, _, _, [], 1, true, rfl, rfl, HA⟩
  case round =>
    obtain ⟨k, hk, rfl, own1, sk, Dk, ids, want, bools, rfl, rfl, HL⟩ := hrel
    clear HA
    by_cases hlt : k < l.length
    · have hltI : (k : Int) < (l.length : Int) := by omega
      obtain ⟨x, hx⟩ : ∃ x, l[k]? = some x := ⟨_, List.getElem?_eq_getElem hlt⟩
      obtain ⟨g, o, a0, a1, a2, a3, a4, a5, a6, a7, a8, rfl, hV, hcl⟩ := kid_read HK.out hx
      have hcx : countX x ≤ 4194304 := Nat.le_trans (countL_mem hx) HC.out
      have HCx := Lib.hid hcx
      have HVx := Lib.hid hV
      have Hcl := Lib.hid hcl
      have Hx := Lib.hid hx
      have Hk1 := Lib.hid (show k + 1 ≤ l.length from hlt)
      have HCt := Lib.hid (RfW.Count_calls W.heap.size (countX x) x (Nat.le_refl _) hcx wr _ (tree_frm0 hV HL.out.frm))
      obtain ⟨c0, c1, c2, c3, c4, c5, c6, c7, c8⟩ := hcl _ HL.out.frm
      obtain ⟨TA, TC, rfl, _⟩ := sees_slice HL.out.row.sees
      clear hV hcl hcx hx hlt
      go_wp2_with fail
      refine HCt.out.mono ?_
      rintro e w3 ⟨rfl, hf⟩
      have HL := Lib.hid (HL.out.frm0 hf)
      clear hf HCt c0 c1 c2 c3 c4 c5 c6 c7 c8
      by_cases h20 : countX x ≤ 20
      case neg =>
        have t20 : (20 : Int) < (countX x : Int) := by omega
        clear h20
        go_wp2
        go_ret
        exact ⟨rfl, HL.out.frm⟩
      have t20 : ¬ ((20 : Int) < (countX x : Int)) := by omega
      have H20 := Lib.hid h20
      clear h20
      have HBd := Lib.hid (Build_calls W.heap.size p vs (.slice VA vs.length VC) is (envOf vs is) env_get (countX x) x (Nat.le_refl _) w3 own1 sk Dk _ HL.out.env HL.out.pool HL.out.good HL.out.types HL.out.low HL.out.frm.size (tree_frm0 HVx.out HL.out.frm) (HV.out.frm0 HL.out.frm) (by have := HL.out.room; have := H20.out; have := H8.out; omega))
      have Hok := Lib.hid (build_ok vs is (envOf vs is) env_get x sk Dk HL.out.good HL.out.types)
      obtain ⟨r, hr⟩ : ∃ r, r = buildF vs x sk := ⟨_, rfl⟩
      rw [← hr] at HBd Hok
      obtain ⟨⟨f, er⟩, s2⟩ := r
      obtain ⟨c0, c1, c2, c3, c4, c5, c6, c7, c8⟩ := Hcl.out _ HL.out.frm
      clear hr
      go_wp2_with fail
      refine HBd.out.mono ?_
      rintro e w4 ⟨rfl, own4, hP, hM⟩
      clear c0 c1 c2 c3 c4 c5 c6 c7 c8
      cases hty : (typeX vs x).2 with
      | false =>
        obtain ⟨q1, _⟩ := Hok.out.2 hty
        have q1 : ¬ er = 0 := q1
        have hq1 : (er == 0) = false := by simpa using q1
        have HF := Lib.hid (low_frm HL.out hM)
        clear hty Hok hP hM
        go_wp2
        go_ret
        exact ⟨rfl, HF.out⟩
      | true =>
        have hB := Hok.out.1 hty
        have he0 : er = 0 := hB.err
        subst he0
        obtain ⟨D2, hM4⟩ := HL.out.build hP hM hB H20.out
        have HM := Lib.hid hM4
        have Hty := Lib.hid hty
        clear hP hM hB hM4 Hok hty HL HBd
        have HT := Lib.hid (RfW.Type_calls W.heap.size vs (.slice VA vs.length VC) (countX x) x (Nat.le_refl _) HCx.out w4 _ (tree_frm0 HVx.out HM.out.frm) (HV.out.frm0 HM.out.frm))
        obtain ⟨ty, hty2⟩ : ∃ ty, ty = (typeX vs x).1 := ⟨_, rfl⟩
        obtain ⟨c0, c1, c2, c3, c4, c5, c6, c7, c8⟩ := Hcl.out _ HM.out.frm
        go_wp2_with fail
        refine HT.out.mono ?_
        rintro e w5 ⟨rfl, hf⟩
        have HM := Lib.hid (HM.out.frm0 hf)
        rw [← hty2, Hty.out]
        have Hty2 := Lib.hid hty2
        clear hf HT c0 c1 c2 c3 c4 c5 c6 c7 c8 hty2
        obtain ⟨c0, c1, c2, c3, c4, c5, c6, c7, c8⟩ := Hcl.out _ HM.out.frm
        have hg5 : g < w5.heap.size := World.block_lt_of_cell? _ _ c0
        have HEx := Lib.hid (RfW.Eval_calls W.heap.size vs is (.slice VA vs.length VC) (.slice IA is.length IC) Hiv.out (countX x) x (Nat.le_refl _) HCx.out Hty.out (w5.alloc (.cells #[.int .i64 ty.1, .bool ty.2] 23)) _ (tree_frm0 HVx.out (HM.out.frm.alloc _)) (HV.out.frm0 (HM.out.frm.alloc _)) (HI.out.frm0 (HM.out.frm.alloc _)))
        cases bools
        · go_wp2_with fail
          refine HEx.out.mono ?_
          rintro e w6 ⟨rfl, hf⟩
          have HM := Lib.hid (HM.out.frm0 (frm_then (frm_alloc w5 (.cells #[.int .i64 ty.1, .bool ty.2] 23)) hf))
          have hev : evalX vs is x < 2 ^ 64 := by
            rw [← HM.out.fval]
            exact Nat.lt_of_lt_of_le (HM.out.good.lt HM.out.fin) (Nat.pow_le_pow_right (by decide) (wid_le (HM.out.good.right HM.out.fin)).2)
          have hand := bits_and_u64 want (evalX vs is x) (by have := HM.out.want1; omega) hev
          clear hf c0 c1 c2 c3 c4 c5 c6 c7 c8 hev
          go_wp2_with (at_builtin; refine wpList_append_row rfl _ _ 50 rfl 3 i0 (.int .i64 0) 8 Tryz.underlying50 hii hz0 hz1 hz2 rfl (enc := iI) (.slice TA ids.length TC) ids rfl ((HM.out.frm0 (frm_alloc w6 (.cells #[.int .i64 f] 3))).row) ⟨w6.heap.size, 0, none⟩ 1 f rfl ?c1 rfl ?c2 ?c3 ?_)
          case c1 => exact blk_cell (blk_new _) 0
          case c2 => have := HM.out.len; have := Hk1.out; have := H8.out; have : maxLen = 9223372036854775807 := rfl; omega
          case c3 => have := HM.out.len; have := Hk1.out; have := H8.out; omega
          intro g' cap' w7 hrow hfr hg hlt7
          have HL7 := Lib.hid ((HM.out.frm0 (frm_alloc w6 (.cells #[.int .i64 f] 3))).next Hx.out hrow hfr (hg.imp id fun h => by rw [h]; simp) rfl)
          rw [← Hty2.out] at HL7
          clear hrow hfr hg
          go_wp2
          try simp only [hand]
          go_roundw
          case rel => exact ⟨k + 1, Hk1.out, by first | rfl | go_num, own4, s2, D2, ids ++ [f], _, _, rfl, rfl, Lib.hid (by simpa using HL7.out)⟩
          case measure => have := Hk1.out; simp [intOf]; omega
        · go_wp2_with fail
          refine HEx.out.mono ?_
          rintro e w6 ⟨rfl, hf⟩
          have HM := Lib.hid (HM.out.frm0 (frm_then (frm_alloc w5 (.cells #[.int .i64 ty.1, .bool ty.2] 23)) hf))
          have hev : evalX vs is x < 2 ^ 64 := by
            rw [← HM.out.fval]
            exact Nat.lt_of_lt_of_le (HM.out.good.lt HM.out.fin) (Nat.pow_le_pow_right (by decide) (wid_le (HM.out.good.right HM.out.fin)).2)
          have hand := bits_and_u64 want (evalX vs is x) (by have := HM.out.want1; omega) hev
          clear hf c0 c1 c2 c3 c4 c5 c6 c7 c8 hev
          go_wp2_with (at_builtin; refine wpList_append_row rfl _ _ 50 rfl 3 i0 (.int .i64 0) 8 Tryz.underlying50 hii hz0 hz1 hz2 rfl (enc := iI) (.slice TA ids.length TC) ids rfl ((HM.out.frm0 (frm_alloc w6 (.cells #[.int .i64 f] 3))).row) ⟨w6.heap.size, 0, none⟩ 1 f rfl ?c1 rfl ?c2 ?c3 ?_)
          case c1 => exact blk_cell (blk_new _) 0
          case c2 => have := HM.out.len; have := Hk1.out; have := H8.out; have : maxLen = 9223372036854775807 := rfl; omega
          case c3 => have := HM.out.len; have := Hk1.out; have := H8.out; omega
          intro g' cap' w7 hrow hfr hg hlt7
          have HL7 := Lib.hid ((HM.out.frm0 (frm_alloc w6 (.cells #[.int .i64 f] 3))).next Hx.out hrow hfr (hg.imp id fun h => by rw [h]; simp) rfl)
          rw [← Hty2.out] at HL7
          clear hrow hfr hg
          go_wp2
          try simp only [hand]
          go_roundw
          case rel => exact ⟨k + 1, Hk1.out, by first | rfl | go_num, own4, s2, D2, ids ++ [f], _, _, rfl, rfl, Lib.hid (by simpa using HL7.out)⟩
          case measure => have := Hk1.out; simp [intOf]; omega
    · obtain rfl : k = l.length := by omega
      have hltI : ¬ (l.length : Int) < (l.length : Int) := by omega
      obtain ⟨TA, TC, rfl, _⟩ := sees_slice HL.out.row.sees
      have hin : ∀ g, InBlk (.slice TA ids.length TC) g → ¬ own1 g := fun g hg ho => by
        obtain ⟨_, _, _, e⟩ := hg
        cases e
        exact (HL.out.apart g rfl).1 ho
      have hidl : ids.length ≤ 8 := by have := HL.out.len; have := H8.out; omega
      have HAl := Lib.hid (PAll_calls HL.out.env HL.out.pool HL.out.good (.slice TA ids.length TC) ids HL.out.row.sees hin (by omega) (by have := HL.out.room; have := H8.out; omega))
      obtain ⟨D9, G9, y9, p9, n9⟩ := All_law HL.out.good HL.out.inn
      obtain ⟨r, hr⟩ : ∃ r, r = AllF sk ids := ⟨_, rfl⟩
      rw [← hr] at HAl G9 y9 p9 n9
      obtain ⟨⟨ao, ae⟩, s9⟩ := r
      have Hp9 := Lib.hid p9
      have Hn9 := Lib.hid n9
      have HG9 := Lib.hid G9
      have HT9 := Lib.hid (HL.out.types.of y9)
      clear hr G9 y9 p9 n9 hin hk hidl
      go_wp2_with fail
      refine HAl.out.mono ?_
      rintro e w3 ⟨rfl, own3, hP, hM⟩
      have HF3 := Lib.hid (low_frm HL.out hM)
      have HP3 := Lib.hid hP
      have HE3 := Lib.hid (TmW.Env.moves HL.out.env hM HL.out.pool.lo)
      have HL3 := Lib.hid (show ∀ b, own3 b → W.heap.size ≤ b from fun b hb => (hM.2.1 b hb).elim (HL.out.low b) fun hge => Nat.le_trans HL.out.frm.size hge)
      clear hP hM HAl
      cases bools
      · have hz := Hn9.out fun h => absurd (HL.out.all.2 h) (by decide)
        obtain ⟨rfl, rfl⟩ : ao = 0 ∧ ae = 100 := ⟨congrArg (·.1) hz, congrArg (·.2) hz⟩
        clear hz
        go_wp2
        go_ret
        exact ⟨rfl, HF3.out⟩
      · obtain ⟨z1, z2, z3⟩ := Hp9.out (HL.out.all.1 rfl)
        have z1 : ae = 0 := z1
        subst z1
        have hwant : D9 ao = want := by
          have z3 : D9 ao = _ := z3
          rw [z3, HL.out.vals, HL.out.wantE]
        have Hz2 := Lib.hid z2
        have Hwant := Lib.hid hwant
        have HVl := Lib.hid (values_calls W.heap.size w3 (.string .empty) (.int .i64 0) (.bool false) (.int .u64 0) (.int .i64 0) (.bool false) (.int .i64 0) (.int .i64 0) (.slice none 0 0) vs is VA IA VC IC (HV.out.frm0 HF3.out) (HI.out.frm0 HF3.out) H10.out Hiv.out)
        have hzT := zeroT
        clear z2 z3 hwant
        go_wp2_with fail
        refine HVl.out.mono ?_
        rintro e w4 ⟨vr, rfl, hvr, hf, hvo⟩
        have hap : ∀ g, vr.ownBlock = some g → ¬ own3 g := fun g hg ho => by have h1 := hvo g hg; have h2 := HP3.out.lt g ho; omega
        have HEv := Lib.hid (told_eval (HE3.out.frm0 hf) (HP3.out.frm0 hf) HG9.out HT9.out (by have := H10.out; omega) H64.out Hz2.out vr hvr hap)
        rw [Hwant.out] at HEv
        have HF4 := Lib.hid (frm_then HF3.out hf)
        clear hvr hf hvo hap hzT HVl
        go_wp2_with fail
        refine HEv.out.mono ?_
        rintro e w5 ⟨rfl, hP, hM⟩
        have HF5 := Lib.hid (show Frm (fun _ => False) W w5 from HF4.out.trans hM.1 fun x hx ho => by have := HL3.out x ho; omega)
        clear hP hM HEv
        go_wp2
        go_ret
        exact ⟨rfl, HF5.out⟩
end LawT
end Go.Proofs.YtbbajekecppioaaGreatDoor
namespace Go.Proofs.YtbbajekecppioaaGreatDoor
open Go.RowKit Go.Mem Go.ChangeShapes Go.WideShapes Go.ChangeAt Go.Deep
namespace LawT
open RfW (KidsAt) in
open TmW (countL countX) in
theorem kids_read {H : Type} {enc : TypeId × Value → H} {w : World} {base : Nat} {spare : Nat → Bool} {held : Bool} {fuel : Nat} {v : Value} {x : DataW H × List MemPlace} (h : DataW.trod enc Tryz.prog w base spare held fuel 25 [v] = some x) (hb : Rows.uptoBulk x.1 ≤ 140737488355328) : ∃ XA XC l, v = .slice XA (List.length l) XC ∧ KidsAt w w.heap.size XA 0 l ∧ l.length ≤ maxLen ∧ countL l ≤ Rows.uptoBulk x.1 := by
  obtain ⟨A, len, cap, m, elems, hm, e7, hml, hel, hbk, hek⟩ := slice_read (c := 9) Tryz.underlying25 (show Tryz.prog.cellsOf 27 = 9 by kernel_rfl) (by omega) h
  obtain ⟨kids, hkl, hkq⟩ := list_of (Q := fun i (T : Go.Tp.Tree) => ∃ y, elems[i]? = some y ∧ countX T ≤ Rows.uptoBulk y.1 ∧ ∃ g o, A = some ⟨g, o, none⟩ ∧ RfW.TreeAt w w.heap.size g (o + (0 + i) * 9) T) len fun i hi => by
    obtain ⟨g, o, cs, y, e, hg, hcl, hcs, hy, htr⟩ := hek i hi
    have hle := bulk_mem (elems.map (·.1)) i y.1 (by simp [hy])
    obtain ⟨T, hT, hct⟩ := tree_read m htr (by omega)
    exact ⟨T, y, hy, hct, g, o, e, hT.at hg (by rw [Nat.zero_add]; exact hcs)⟩
  have hcnt := count_of kids (elems.map (·.1)) (by simp [hkl, hel]) fun i T d hT hd => by
    obtain ⟨y, hy, hct, _⟩ := hkq i T hT
    simp only [List.getElem?_map, hy, Option.map_some, Option.some.injEq] at hd
    subst hd
    exact hct
  subst hkl
  exact ⟨A, cap, kids, e7, kids_of kids 0 fun k T hT => (hkq k T hT).elim fun _ h => h.2.2, hml, by omega⟩
theorem all_reads (os : Os) {H : Type} (enc : TypeId × Value → H) : ∃ places, DataW.whole enc Tryz.prog ((laidWorld os).forCall (fun _ _ => 0) ⟨#[], #[.slice none 0 0, .slice none 0 0, .slice none 0 0], []⟩).memory Tryz.f5.params.toList Rows.termAllSpec.vars false #[.slice none 0 0, .slice none 0 0, .slice none 0 0].toList 8 = some ([.nil, .nil, .nil], [], places) :=
  ⟨[], by kernel_rfl⟩
set_option maxRecDepth 100000 in
set_option maxHeartbeats 1000000 in
theorem all_lifted (os : Os) (started : os.Started) (H : Type) (enc : TypeId × Value → H) (F : Stop.Interp) :
    ReturnsInHanded {} Tryz.checked os 5 .any ((Rows.OpenSpec.upto Rows.termAllSpec).preRow enc Tryz.prog Tryz.f5 Rows.termAllUptoRow.domain false Rows.termAllUptoRow.laid) (((Rows.OpenSpec.upto Rows.termAllSpec).at F).post enc Tryz.prog Tryz.f5 false true false false) := by
  obtain ⟨places, hx⟩ := all_reads os enc
  refine returnsInHanded_of_row (C := Tryz.checked) (s := Rows.OpenSpec.upto Rows.termAllSpec) own_knob started (by kernel_rfl) Tryz.func5
    (witness_row_at (enc := enc) (C := Tryz.checked) false (laidWorld os) #[.slice none 0 0, .slice none 0 0, .slice none 0 0] rfl (by kernel_rfl) (by kernel_rfl) (by kernel_rfl)
      (OpenSpec.preRow_of_cond 8 hx (by kernel_rfl) (fun k hk => by cases hk; kernel_rfl) (by kernel_rfl) (laid_met os _))) ?_
  intro W base args ds gs before hval0 hW _ hcond _ hL _ _
  have hval : ∀ (j : Nat) t v, Tryz.f5.params[j]? = some t → args[j]? = some v → Value.okWide Tryz.prog W .any base t v := hval0
  have hk : Rows.uptoSmall H (ds ++ gs) = true := hcond _ rfl
  have hW' := hW
  obtain ⟨p, q, hA0, hV, rfl, hfz, hnd⟩ := hW
  have hA : DataW.TrodAll enc Tryz.prog W 0 (fun _ => true) true Tryz.f5.params.toList args.toList ds p := hA0
  have hAk := hA
  rw [Tryz.params5] at hA hval
  obtain ⟨v0, vs0, d0, ds0, p0, q0, hargs, rfl, rfl, h0, r0⟩ := trodAll_cons hA
  obtain ⟨v1, vs1, d1, ds1, p1, q1, rfl, rfl, rfl, h1, r1⟩ := trodAll_cons r0
  obtain ⟨v2, vs2, d2, ds2, p2, q2, rfl, rfl, rfl, h2, r2⟩ := trodAll_cons r1
  obtain ⟨rfl, rfl, rfl⟩ := trodAll_nil r2
  obtain rfl : args = #[v0, v1, v2] := by cases args; simp_all
  obtain ⟨rfl, rfl⟩ := trodVars_none hV
  have hb : Rows.uptoBulkAll [d0, d1, d2] ≤ 1048576 := of_decide_eq_true hk
  simp only [Rows.uptoBulkAll] at hb
  obtain ⟨_, _, _, rfl⟩ := okWide_slice Tryz.underlying25 (hval 0 25 v0 rfl rfl)
  obtain ⟨_, _, _, rfl⟩ := okWide_slice Tryz.underlying28 (hval 1 28 v1 rfl rfl)
  obtain ⟨_, _, _, rfl⟩ := okWide_slice Tryz.underlying29 (hval 2 29 v2 rfl rfl)
  obtain ⟨_, t0⟩ := h0
  obtain ⟨_, t1⟩ := h1
  obtain ⟨_, t2⟩ := h2
  obtain ⟨XA, XC, l, e0, hkids, hml, hcl⟩ := kids_read t0 (show Rows.uptoBulk d0 ≤ 140737488355328 by omega)
  obtain ⟨VA, VC, vs, e1, hvs⟩ := vars_read t1
  obtain ⟨IA, IC, is, e2, his⟩ := nums_read t2
  cases e0
  cases e1
  cases e2
  clear hA0 hval0 hcond hk
  simp only [List.append_nil] at hW'
  have hd0 : Rows.uptoBulk d0 ≤ 1048576 := by omega
  refine (all_walk W (env_of hL) _ _ _ _ _ _ l vs is hkids hml (Nat.le_trans hcl (Nat.le_trans hd0 (by omega))) hvs his).mono fun e W' ⟨he, hf⟩ => ?_
  subst he
  have hb := hf.below
  exact ⟨_, rfl, post_below (pa := _) (pv := []) hW' (fun _ _ _ => trodAll_mk1 (shut_bool Tryz.underlying4 _)) (fun sp hsp => args_again (by rw [Tryz.params5]; decide) hAk hb sp (by simpa using hsp)) (fun _ _ => rfl) (by simp) hb (ok_one (by kernel_rfl) rfl (okWide_bool_mk Tryz.underlying4 _))⟩
theorem all_said : Rows.TermAllUptoSaid :=
  OpenClaim.holds_of_cond 5 Tryz.f5 rfl rfl rfl rfl rfl rfl rfl ⟨rfl, rfl, rfl, rfl, rfl⟩ rfl rfl rfl rfl rfl (by kernel_rfl) Tryz.func5 (by kernel_rfl)
    (of_decide_eq_true (by kernel_rfl)) (by unfold Func.isWrapper; first | (rw [if_pos (by decide +kernel)]; kernel_rfl) | (rw [if_neg (by decide +kernel)]; exact ⟨rfl, rfl⟩))
    (fun os started H enc _ F => by rw [OpenClaim.pre_eq_preRow]; exact all_lifted os started H enc F)
theorem all_card_plain (f : FuncId) (fn : Func) (hf : Tryz.pinned.checked.prog.funcNamed "skua/skualaw10.TermAll" = some f) (hfn : Tryz.pinned.checked.prog.funcs[f]? = some fn) :
    false = Tryz.pinned.checked.prog.looks [] ∧ ∀ (j : Nat) t, fn.params[j]? = some t → Tryz.pinned.checked.prog.wantsStandIn t = false := by
  obtain rfl : f = 5 := Option.some.inj ((show Tryz.prog.funcNamed "skua/skualaw10.TermAll" = some 5 by kernel_rfl).symm.trans hf) |>.symm
  obtain rfl : fn = Tryz.f5 := (Option.some.inj (Tryz.func5.symm.trans hfn)).symm
  refine ⟨by kernel_rfl, fun j t ht => ?_⟩
  rw [Tryz.params5] at ht
  have ht' : t = 25 ∨ t = 28 ∨ t = 29 := by simpa using Array.mem_of_getElem? ht
  rcases ht' with rfl | rfl | rfl
  · exact (show Tryz.prog.wantsStandIn 25 = false by kernel_rfl)
  · exact (show Tryz.prog.wantsStandIn 28 = false by kernel_rfl)
  · exact (show Tryz.prog.wantsStandIn 29 = false by kernel_rfl)
end LawT
theorem termAllUpto_holds : Rows.TermAllUptoCardSaid :=
  Claim7.holds_tied_plain_at .later [] _ _ _ _ LawT.all_said (fun _ h => by cases h) (by kernel_rfl) (fun _ h => by cases h) termAllUpto_row_tie rfl ⟨rfl, rfl⟩ (by kernel_rfl) rfl LawT.all_card_plain (by kernel_rfl)
#print axioms termAllUpto_holds
end Go.Proofs.YtbbajekecppioaaGreatDoor
