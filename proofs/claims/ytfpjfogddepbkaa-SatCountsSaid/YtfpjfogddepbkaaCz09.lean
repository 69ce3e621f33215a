/- What follows from a clause that can't hold, walked: learn. -/
import Derived.Test.YtfpjfogddepbkaaCz08
import Derived.Shelf.Small.Bits
import Derived.Shelf.Small.Wraps
import Derived.Shelf.Strconv.Itoa0
import Derived.Shelf.Sort.Plain
import Derived.Shelf.Slices.Turned
import Derived.Ground.Names2Prog
import Derived.Shelf.Slices.Clone
import Derived.Shelf.Slices.CompactI
import Derived.Shelf.Slices.SearchI
import Derived.Shelf.Slices.Cells
import Derived.Shelf.Slices.In.SortNone
import Derived.Test.YtfpjfogddepbkaaProg
set_option linter.unusedSimpArgs false
set_option linter.unusedVariables false
namespace Go.Proofs.Ytfpjfogddepbkaa
open Go.RowKit Go.Mem Go.Sat
namespace SaW
/-- What learn hands back. -/
def LearnPost (R : Nat → Option Role) (w : World) (p : Nat) (lits : List Int) (back : Int) (s' : St) (e : Ending) (w' : World) : Prop :=
  ∃ v R', e = .returned (.tuple #[v, .int .i64 back]) ∧ Row w' 3 iI v lits ∧ (∀ g, v.ownBlock = some g → R' g = none ∧ w.heap.size ≤ g) ∧ SolverAt w' R' p s' ∧ SMov LearnT R w R' w'
/-- A clause's literals are where and what they were. -/
def Keep (c : Nat) (Rj : Nat → Option Role) (w2 : World) (RI : Nat → Option Role) (w' : World) : Prop := ∀ g, Rj g = some (.lits c) → RI g = some (.lits c) ∧ w'.heap[g]? = w2.heap[g]?
theorem Keep.frm {c : Nat} {Rj RI : Nat → Option Role} {w2 w' w'' : World} {p : Nat} {s : St} {S : Nat → Prop} (h : Keep c Rj w2 RI w') (hS : SolverAt w' RI p s) (hf : Frm S w' w'') (hn : ∀ g, S g → RI g = none) : Keep c Rj w2 RI w'' := fun g hg => by
  obtain ⟨h1, h2⟩ := h g hg
  obtain ⟨_, _, _, _, _, _, _, _, _, H⟩ := hS
  exact ⟨h1, (hf.block g (H.lt g _ h1) (fun e => by rw [hn g e] at h1; cases h1)).trans h2⟩
theorem Keep.frm0 {c : Nat} {Rj RI : Nat → Option Role} {w2 w' w'' : World} {p : Nat} {s : St} (h : Keep c Rj w2 RI w') (hS : SolverAt w' RI p s) (hf : Frm (fun _ => False) w' w'') : Keep c Rj w2 RI w'' := h.frm hS hf fun _ e => e.elim
theorem Keep.mov {c : Nat} {Rj RI R' : Nat → Option Role} {w2 w' w'' : World} {p : Nat} {s : St} (h : Keep c Rj w2 RI w') (hS : SolverAt w' RI p s) (hM : SMov UsedT RI w' R' w'') : Keep c Rj w2 R' w'' := fun g hg => by
  obtain ⟨h1, h2⟩ := h g hg
  obtain ⟨_, _, _, _, _, _, _, _, _, H⟩ := hS
  exact ⟨hM.2.1 _ _ h1, (hM.1.block g (H.lt g _ h1) (fun ⟨r, e1, e2⟩ => by rw [h1] at e1; cases e1; rcases e2 with e2 | e2 | e2 | e2 <;> cases e2)).trans h2⟩
theorem sort_more {s' : St} {bj : Int} {oj lits : List Int} {K j2 n : Nat} {back : Int} (h1 : Hid (sortF s' bj oj K (j2 + 1 + 1) = some (lits, back))) (h2 : Hid (n - 1 - j2 = K + 1)) : Hid (sortF s' bj oj (n - 1 - (j2 + 1)) (j2 + 1 + 1) = some (lits, back)) := by
  have h1 := h1.out
  have h2 := h2.out
  have : n - 1 - (j2 + 1) = K := by omega
  exact Lib.hid (this.symm ▸ h1)
theorem wrap_nat {n : Nat} (h : n ≤ 4611686018427387904) : wrap64 ((n : Int) + 1) = (n : Int) + 1 := by unfold wrap64; omega
def LInv (R0 : Nat → Option Role) (w0 : World) (p mb : Nat) (res : St × Int × List Int) (k : Nat) (v1 v6 v8 v9 v10 : Value) (w' : World) : Prop :=
  ∃ sj Rj c b n seen count i out, learnL k sj c n seen count i out = some res ∧ v1 = .pointer (some ⟨b, 0, none⟩) ∧ Rj b = some (.cl c) ∧ v8 = .int .i64 count ∧ v9 = .int .i64 i ∧ v10 = .int .i64 n ∧ i ≤ maxLen ∧ Side R0 w0 Rj w' p sj mb seen v6 out
section
variable {w : World} {R : Nat → Option Role} {p : Nat} {s s' : St}
set_option maxRecDepth 100000 in
set_option maxHeartbeats 4000000 in
theorem learn_calls (h : SolverAt w R p s) (c b : Nat) (hb : R b = some (.cl c)) (lits : List Int) (back : Int) (hs : learnF s c = some ((lits, back), s')) : Calls Try.prog 35 #[.pointer (some ⟨p, 0, none⟩), .pointer (some ⟨b, 0, none⟩)] w (LearnPost R w p lits back s') := by
  obtain ⟨i0, hi, hz0, hz1, hz2⟩ := info_parts info_int
  have HS0 := Lib.hid h
  obtain ⟨ids, vv, hv, pv, lv, tv, mv, bm, kvs, H⟩ := h
  obtain ⟨_, _, _, _, _, c5, _⟩ := H.cells
  obtain ⟨TA, tc, rfl, _⟩ := sees_slice H.trail.sees
  have htl : s.trail.length ≤ 9223372036854775807 := H.trail.sees.len
  have hbl := H.lt p _ H.rme
  unfold learnF at hs
  split at hs
  case h_1 => cases hs
  rename_i s1r nr outr hL
  have hN : ∀ g, (Value.slice (some ⟨w.heap.size, 0, none⟩) 1 1).ownBlock = some g → R g = none ∧ w.heap.size ≤ g ∧ g ≠ w.heap.size + 1 := fun g e => by
    cases e
    exact ⟨none_of H (Nat.le_refl _), Nat.le_refl _, Nat.ne_of_lt (Nat.lt_succ_self _)⟩
  have hrow : Row ((w.alloc (.cells #[.int .i64 0] 3)).alloc (.map #[] 0)) 3 iI (.slice (some ⟨w.heap.size, 0, none⟩) 1 1) [0] := ⟨by simp, .inr ⟨w.heap.size, 1, #[.int .i64 0], rfl, Nat.zero_le _, blk_alloc (blk_new _) _, Nat.le_refl _, by decide, rfl, rfl⟩⟩
  have hff := (frm_alloc w (.cells #[.int .i64 0] 3)).trans (frm_alloc (w.alloc (.cells #[.int .i64 0] 3)) (.map #[] 0)) (fun _ _ h => h)
  have hseen : SeenAt ((w.alloc (.cells #[.int .i64 0] 3)).alloc (.map #[] 0)) (w.heap.size + 1) [] := ⟨[], by have := mapAt_new (w.alloc (.cells #[.int .i64 0] 3)) iI Value.bool; simpa using this, fun k => by simp [mget]⟩
  have HSide : Hid (Side R w R ((w.alloc (.cells #[.int .i64 0] 3)).alloc (.map #[] 0)) p s (w.heap.size + 1) [] (.slice (some ⟨w.heap.size, 0, none⟩) 1 1) [0]) := Lib.hid ⟨HS0.out.frm0 hff, SMov.of0 hff, hseen, none_of H (by omega), by omega, hrow, hN⟩
  have HL := Lib.hid hL
  have HSS := Lib.hid hs
  have HB := Lib.hid hb
  have hw1 : wrap64 ((s.trail.length : Int) - 1) = (s.trail.length : Int) - 1 := by unfold wrap64; omega
  have hmm := @run_makeMap Try.prog
  clear H hL hs hb hN hrow hff hseen
  go_enter Try.func35, Try.ntmps35
  go_wp2_with fail
  go_quiet (fail)
  obtain ⟨w1, hw⟩ : ∃ w1, w1 = ((w.alloc (.cells #[.int .i64 0] 3)).alloc (.map #[] 0)).drewN nq := ⟨_, rfl⟩
  have HS1 : Hid (Side R w R w1 p s (w.heap.size + 1) [] (.slice (some ⟨w.heap.size, 0, none⟩) 1 1) [0]) := Lib.hid (by rw [hw]; exact HSide.out.frm0 ((Frm.refl _ _).drewN _))
  rw [← hw]
  obtain ⟨mb, hmb⟩ : ∃ mb, mb = w.heap.size + 1 := ⟨_, rfl⟩
  rw [← hmb] at HS1 ⊢
  obtain ⟨res, hres⟩ : ∃ res, res = (s1r, nr, outr) := ⟨_, rfl⟩
  have HI0 : Hid (LInv R w p mb res (s.vars.length + 1) (.pointer (some ⟨b, 0, none⟩)) (.slice (some ⟨w.heap.size, 0, none⟩) 1 1) (.int .i64 0) (.int .i64 ((s.trail.length : Int) - 1)) (.int .i64 0) w1) := Lib.hid ⟨s, R, c, b, 0, [], 0, _, [0], by rw [hres]; exact HL.out, rfl, HB.out, rfl, rfl, rfl, by have : maxLen = 9223372036854775807 := rfl; omega, HS1.out⟩
  have HRES := Lib.hid hres
  clear hw hmb hres HSide HS1 HS0 HL HB c5 hmm
  go_wp2_with fail
  go_loopw [1, 6, 8, 9, 10] (fun v1 v6 v8 v9 v10 w' => Hid (∃ k, LInv R w p mb res k v1 v6 v8 v9 v10 w')) (fun v1 v6 v8 v9 v10 w' => leastK fun k => LInv R w p mb res k v1 v6 v8 v9 v10 w')
  case atStart => exact Lib.hid ⟨_, HI0.out⟩
  case round =>
    clear HI0
    obtain ⟨hI, hmin⟩ := leastK_spec hrel.out
    obtain ⟨k0, hk0⟩ : ∃ k0, k0 = leastK fun k => LInv R w p mb res k u1 u6 u8 u9 u10 wr := ⟨_, rfl⟩
    rw [← hk0] at hI hmin
    have HK0 := Lib.hid hk0
    clear hrel hmin hk0
    obtain ⟨sj, Rj, c, b, n, seen, count, i, out, hsp, rfl, hb, rfl, rfl, rfl, hi63, hSd⟩ := hI
    cases k0 with
    | zero => cases hsp
    | succ k0 =>
    have HSD := Lib.hid hSd
    obtain ⟨ids, vv, hv, pv, lv, tv, mv, bm, kvs, H⟩ := hSd.sol
    obtain ⟨_, _, _, _, _, _, _, _, c8, _⟩ := H.cells
    obtain ⟨x, vx, hcl, hblk, hrow, hrole⟩ := H.cl_at hb
    obtain ⟨XA, xc, rfl, _⟩ := sees_slice hrow.sees
    have b0 : wr.cell? ⟨b, 0, none⟩ = some (.slice XA x.lits.length xc) := blk_cell hblk 0
    have b2 : wr.cell? ⟨b, 2, none⟩ = some (.int .i64 x.score) := blk_cell hblk 2
    have hbz : ∀ i, wr.frozen? ⟨b, i, none⟩ = false := fun i => blk_free hblk i
    unfold learnL at hsp
    rw [hcl] at hsp
    simp only at hsp
    split at hsp
    case h_1 => cases hsp
    rename_i s2 seen2 count2 out2 hsc
    have hpb : p ≠ b := fun e => by have h1 := H.rme; rw [e, hb] at h1; cases h1
    have hf1 : Frm (fun q => Rj q = some (.cl c) ∨ Rj q = some (.lits c)) wr (wr.setCell ⟨b, 2, none⟩ (.int .i64 sj.conflicts)) := (Frm.refl _ wr).set (.inl (.inl hb)) _
    have hbx : (wr.setCell ⟨b, 2, none⟩ (.int .i64 sj.conflicts)).heap[b]? = some (.cells #[.slice XA x.lits.length xc, .bool x.learnt, .int .i64 sj.conflicts] 62) := blk_set hblk 2 _ rfl
    have hrw : Row (wr.setCell ⟨b, 2, none⟩ (.int .i64 sj.conflicts)) 3 iI (.slice XA x.lits.length xc) x.lits := own_set_ne hrow (fun e => by have h1 := hrole b e; rw [hb] at h1; cases h1) _
    have H1 := H.in_cl (x' := { x with score := sj.conflicts }) hb hf1 hbx hrw hrole
    rw [← modify_const sj.cls c (fun x => { x with score := sj.conflicts }) x hcl] at H1
    have hf2 : Frm (fun q => Rj q = some (.cl c)) wr (wr.setCell ⟨b, 2, none⟩ (.int .i64 sj.conflicts)) := (Frm.refl _ wr).set (.inl hb) _
    have HSD1 := Lib.hid (hSd.move (T := fun r => ∃ c, r = .cl c) ⟨_, _, _, _, _, _, _, _, _, H1⟩ ⟨hf2.mono fun q _ hq => ⟨_, hq, _, rfl⟩, fun _ _ h => h, fun _ h => .inl h⟩ fun r hr => .inr hr)
    have hb0 : (wr.setCell ⟨b, 2, none⟩ (.int .i64 sj.conflicts)).cell? ⟨b, 0, none⟩ = some (.slice XA x.lits.length xc) := blk_cell hbx 0
    obtain ⟨w2, hw2⟩ : ∃ w2, w2 = wr.setCell ⟨b, 2, none⟩ (.int .i64 sj.conflicts) := ⟨_, rfl⟩
    rw [← hw2] at HSD1 hrw
    have HRW := Lib.hid hrw
    have HSC := Lib.hid hsc
    have HSP := Lib.hid hsp
    have HRO := Lib.hid hrole
    have HW2 := Lib.hid hw2
    have hl63 : x.lits.length ≤ 9223372036854775807 := hrow.sees.len
    have hzp : ∀ i, wr.frozen? ⟨p, i, none⟩ = false := fun i => blk_free H.box i
    have hrolc := hrole
    clear H hblk hcl hrow hrole hsp hsc hf1 hf2 hbx H1 hrw hw2 hb hSd HSD
    obtain ⟨sC, hsC⟩ : ∃ sC, sC = ({ sj with cls := sj.cls.modify c fun x => { x with score := sj.conflicts } } : St) := ⟨_, rfl⟩
    rw [show (St.mk sj.vars sj.heap sj.place sj.watches (sj.cls.modify c fun x => { x with score := sj.conflicts }) sj.learnt sj.trail sj.limits sj.head sj.conflicts sj.added sj.bump sj.broken) = sC from hsC.symm] at HSC HSD1
    have HROL := Lib.hid hrolc
    clear hsC hrolc
    go_wp2_with fail
    rw [← HW2.out]
    have HK0' := HK0
    clear b0 b2 hbz hb0 c8 hzp HW2
    go_loopw [6, 8, 38] (fun v6 v8 v38 w' => ∃ j : Nat, v38 = .int .i64 j ∧ j ≤ x.lits.length ∧ ∃ sI RI seenI countI outI, v8 = .int .i64 countI ∧ Hid (scanF n sI seenI countI outI (x.lits.drop j) = some (s2, seen2, count2, out2)) ∧ Hid (Side R w RI w' p sI mb seenI v6 outI) ∧ Hid (Keep c Rj w2 RI w')) (fun _ _ v38 _ => x.lits.length - (intOf v38).toNat)
    case atStart => exact ⟨0, rfl, by omega, sC, Rj, seen, count, out, rfl, HSC, HSD1, Lib.hid fun _ h => ⟨h, rfl⟩⟩
    case round =>
      obtain ⟨j, rfl, hj, sI, RI, seenI, countI, outI, rfl, HSCI, HSDI, HMI⟩ := hrel
      clear HSD1 HSC
      by_cases hjl : j < x.lits.length
      · have hjI : (j : Int) < (x.lits.length : Int) := by omega
        obtain ⟨m, hm⟩ : ∃ m, x.lits[j]? = some m := ⟨_, List.getElem?_eq_getElem hjl⟩
        obtain ⟨gx, rfl, xj⟩ : ∃ gx, XA = some ⟨gx, 0, none⟩ ∧ wr.cell? ⟨gx, j, none⟩ = some (iI m) := by
          rcases HRW.out.shape with ⟨_, e⟩ | ⟨gx, cx, e, ho, _, _, hc, _⟩
          · rw [e] at hjl; simp at hjl
          · injection e with ea eb ec
            refine ⟨gx, ea, ?_⟩
            have hc1 := hc j m hm
            have hr := HROL.out gx ho
            have hb := (HMI.out gx hr).2
            rw [← hc1]; simp only [World.cell?, hb]
        have e := HSCI.out
        rw [List.drop_eq_getElem_cons hjl, Option.some.inj ((List.getElem?_eq_getElem hjl).symm.trans hm)] at e
        unfold scanF at e
        split at e
        case isTrue => cases e
        rename_i hgd
        have hgd' : smlB m = true ∧ 0 ≤ countI ∧ countI ≤ 1099511627776 ∧ roomB outI.length = true := by simpa using hgd
        have hsm := sml_of hgd'.1
        obtain ⟨q, hq⟩ : ∃ q : Nat, ofF m = q := ⟨(ofF m).toNat, by have := (of_abs hsm).1; omega⟩
        have HO := Lib.hid (fun w1 => of_calls w1 m hsm)
        rw [hq] at HO e
        have HCN := Lib.hid (And.intro hgd'.2.1 hgd'.2.2.1)
        have HRM := Lib.hid (room_of hgd'.2.2.2)
        have HQ := Lib.hid hq
        clear hgd hgd' hsm hm hq
        go_wp2_with fail
        refine (HO.out _).mono ?_
        rintro e3 w3 ⟨rfl, hf⟩
        have HSD3 := Lib.hid (HSDI.out.frm0 hf)
        have HM3 := Lib.hid (HMI.out.frm0 HSDI.out.sol hf)
        clear hf HO HMI HSDI xj
        dsimp only
        have hlk := HSD3.out.seen.look (q : Int)
        by_cases hmn : m = n
        · have e1 : (m == n) = true := by simpa using hmn
          rw [if_pos (Or.inl hmn)] at e
          have HE := Lib.hid e
          clear e hmn hlk
          go_wp2
          go_roundw
          case rel => exact ⟨j + 1, rfl, hjl, sI, RI, seenI, countI, outI, rfl, HE, HSD3, HM3⟩
          case measure => simp only [intOf]; omega
        · have e1 : (m == n) = false := by simpa using hmn
          by_cases hsn : (q : Int) ∈ seenI
          · rw [decide_eq_true hsn] at hlk
            rw [if_pos (Or.inr hsn)] at e
            have HE := Lib.hid e
            clear e hmn hsn
            go_wp2
            go_roundw
            case rel => exact ⟨j + 1, rfl, hjl, sI, RI, seenI, countI, outI, rfl, HE, HSD3, HM3⟩
            case measure => simp only [intOf]; omega
          · rw [decide_eq_false hsn] at hlk
            rw [if_neg (not_or.2 ⟨hmn, hsn⟩)] at e
            split at e
            case h_1 => cases e
            rename_i a ha
            obtain ⟨ids, vv, hv, pv, lv, tv, mv, bm, kvs, H⟩ := HSD3.out.sol
            obtain ⟨d0, _⟩ := H.cells
            obtain ⟨k, g, cc, hk, hkl, hml, rfl, hrg, _, x1, _⟩ := fact_cells H ha
            have hkk : k = q := by omega
            subst hkk
            have hkI : (k : Int) < (sI.vars.length : Int) := by omega
            clear H hk hml hrg ha hmn hsn
            by_cases hl0 : a.level = 0
            · have e2 : (a.level == 0) = true := by simpa using hl0
              rw [if_pos hl0] at e
              have HE := Lib.hid e
              clear e hl0
              go_wp2
              go_roundw
              case rel => exact ⟨j + 1, rfl, hjl, sI, RI, seenI, countI, outI, rfl, HE, HSD3, HM3⟩
              case measure => simp only [intOf]; omega
            · have e2 : (a.level == 0) = false := by simpa using hl0
              rw [if_neg hl0] at e
              split at e
              case h_1 => cases e
              rename_i s4 hus
              split at e
              case h_1 => cases e
              rename_i a4 ha4
              have HE := Lib.hid e
              have HUS := Lib.hid hus
              have HA4 := Lib.hid ha4
              clear e hl0 hus ha4
              obtain ⟨kvsS, hmS, hgS⟩ := HSD3.out.seen
              have HMS := Lib.hid hmS
              have HGS := Lib.hid hgS
              clear hmS hgS
              go_wp2_with (at_mapUpdate; refine wpList_update rfl _ _ _ 79 rfl keyInt Try.underlying79 (ev := Value.bool) (k : Int) true rfl rfl rfl HMS.out ?_)
              intro w5 hm5 hg5
              have HSD5 := Lib.hid (HSD3.out.see HGS.out hm5 hg5)
              have HM5 := Lib.hid (HM3.out.frm HSD3.out.sol (Frm.of_grown hg5) fun g e => by cases e; exact HSD3.out.mbn)
              clear hm5 hg5 HMS HGS HSD3 HM3 d0 x1 hlk
              go_wp2_with fail
              refine (used_calls HSD5.out.sol _ HUS.out).mono ?_
              rintro e6 w6 ⟨rfl, R6, HS6, HM6⟩
              have HSD6 := Lib.hid (HSD5.out.move HS6 HM6 fun r hr => .inl hr)
              have HM7 := Lib.hid (HM5.out.mov HSD5.out.sol HM6)
              have HLV := Lib.hid (fun u (hf : Frm (fun _ => False) w6 u) => level_calls (HS6.frm0 hf))
              obtain ⟨ids4, vv4, hv4, pv4, lv4, tv4, mv4, bm4, kvs4, H4⟩ := HS6
              obtain ⟨d0, _⟩ := H4.cells
              obtain ⟨k4, g4, cc4, hk4, hkl4, hml4, rfl, hrg4, _, x1, _⟩ := fact_cells H4 HA4.out
              have hkk : k4 = k := by omega
              subst hkk
              have hkI4 : (k4 : Int) < (s4.vars.length : Int) := by omega
              clear H4 hk4 hml4 hrg4 HM6 HSD5 HM5
              dsimp only
              go_wp2_with fail
              refine Plan.wp_region_plan [0, 1, 3, 7, 0, 31, 63, 127, 0, 256, 1023] [.mk [0, 1, 2, 3, 4, 5, 6, 7, 8] 9 [0, 1, 2, 3, 4, 5, 6, 7]] [10] (by kernel_rfl) (by kernel_rfl) ?_
              simp only [Plan.wayOf, Plan.pickAll, List.getElem?_cons_zero, List.getElem?_cons_succ, List.getD_eq_getElem?_getD, Option.getD_some]
              refine Plan.wpWay_seg ?_
              repeat go_big_quiet_step (fail)
              refine wpQuiet_nil ?_; refine Plan.wpWay_act ?_
              go_wp2_with fail
              refine (HLV.out _ (Frm.refl _ _).drew).mono ?_
              rintro e w8 ⟨rfl, hf⟩
              have HF8 := Lib.hid (show Frm (fun _ => False) w6 w8 from frm_then (Frm.refl _ _).drew hf)
              have d0 := frm_cell HF8.out d0
              have x1 := frm_cell HF8.out x1
              clear hf
              dsimp only
              go_wp2_with fail
              refine And.intro ?_ ?_; focus ((iterate 8 (refine Plan.again_cons ?_ ?_; focus (go_big_quiet_step (fail); exact wpQuiet_nil rfl))); exact Plan.again_nil)
              refine Plan.wpWay_last ?_
              repeat go_big_quiet_step (fail)
              refine wpQuiet_nil ?_; refine NoPanic.normal ?_
              have HSD8 := Lib.hid (HSD6.out.frm0 HF8.out)
              have HM8 := Lib.hid (HM7.out.frm0 HSD6.out.sol HF8.out)
              clear d0 x1 HSD6 HM7 HF8 HLV
              by_cases hlv : a4.level = levelF s4
              · have e4 : (a4.level == levelF s4) = true := by simpa using hlv
                have e := HE.out
                rw [if_pos hlv] at e
                have HE2 := Lib.hid e
                have hwc : wrap64 (countI + 1) = countI + 1 := by have := HCN.out; unfold wrap64; omega
                clear e hlv
                go_wp2
                go_roundw
                case rel => exact ⟨j + 1, rfl, hjl, s4, R6, _, countI + 1, outI, by rw [hwc], HE2, HSD8, HM8⟩
                case measure => simp only [intOf]; omega
              · have e4 : (a4.level == levelF s4) = false := by simpa using hlv
                have e := HE.out
                rw [if_neg hlv] at e
                have HE2 := Lib.hid e
                obtain ⟨LA, lc, hu6, _⟩ := sees_slice HSD8.out.row.sees
                subst hu6
                clear e hlv
                go_wp2_with (at_builtin; refine wpList_append_row rfl _ _ 26 rfl 3 i0 (.int .i64 0) 8 Try.underlying26 hi hz0 hz1 hz2 rfl (enc := iI) (.slice LA outI.length lc) outI rfl (HSD8.out.row.frm0 (frm_alloc w8 (.cells #[.int .i64 m] 3))) ⟨w8.heap.size, 0, none⟩ 1 m rfl ?c1 rfl ?c2 ?c3 ?_)
                case c1 => exact blk_cell (blk_new _) 0
                case c2 => have := HRM.out; have : maxLen = 9223372036854775807 := rfl; omega
                case c3 => have := HRM.out; omega
                intro g7 cap7 w7 hrow hfr hg hlt7
                obtain ⟨n7, hn7⟩ : ∃ n7, n7 = outI.length + 1 := ⟨_, rfl⟩
                rw [← hn7] at hrow ⊢
                have HSD9 := Lib.hid (HSD8.out.put hrow hfr hg)
                have hfa := frm_alloc w8 (.cells #[.int .i64 m] 3)
                have HM9 := Lib.hid ((HM8.out.frm0 HSD8.out.sol hfa).frm (HSD8.out.sol.frm0 hfa) hfr fun q e => (HSD8.out.own q e).1)
                clear hrow hfr hg hlt7 hn7 hfa HSD8 HM8
                go_wp2
                go_roundw
                case rel => exact ⟨j + 1, rfl, hjl, s4, R6, _, countI, outI ++ [m], rfl, HE2, HSD9, HM9⟩
                case measure => simp only [intOf]; omega
      · have hjI : ¬ (j : Int) < (x.lits.length : Int) := by omega
        have e := HSCI.out
        rw [List.drop_eq_nil_of_le (by omega)] at e
        simp only [scanF] at e
        cases e
        have hsp := HSP.out
        split at hsp
        case h_1 => cases hsp
        rename_i m jj hls
        split at hsp
        case isTrue => cases hsp
        rename_i hgd
        have hgd' : 0 ≤ count2 ∧ count2 ≤ 1099511627777 ∧ smlB m = true := by simpa using hgd
        have HCN := Lib.hid (And.intro hgd'.1 hgd'.2.1)
        have HSM := Lib.hid (sml_of hgd'.2.2)
        have HSP2 := Lib.hid hsp
        have HLS := Lib.hid hls
        have HSD2 := HSDI
        clear HSDI hsp hls hgd hgd' HSP HSCI HMI HRW HROL HRO hjl hj
        go_wp2_with fail
        clear hjI
        have Hi63 := Lib.hid hi63
        clear hi63
        go_loopw [9] (fun v9 w' => ∃ i' : Int, v9 = .int .i64 i' ∧ i' ≤ maxLen ∧ ∃ fuel, Hid (lastSeen s2 seen2 fuel i' = some (m, jj)) ∧ Hid (Side R w RI w' p s2 mb seen2 u6 out2)) (fun v9 _ => (intOf v9).toNat)
        case atStart => exact ⟨_, rfl, Hi63.out, _, HLS, HSD2⟩
        case round =>
          obtain ⟨i', rfl, hi', fuel, HLSI, HSDI⟩ := hrel
          cases fuel with
          | zero => exact absurd HLSI.out (by simp [lastSeen])
          | succ fuel =>
          have e := HLSI.out
          unfold lastSeen at e
          split at e
          case h_1 => cases e
          rename_i t ht
          split at e
          case isTrue => cases e
          rename_i hst
          have hsm := sml_of (n := t) (by simpa using hst)
          obtain ⟨q, hq⟩ : ∃ q : Nat, ofF t = q := ⟨(ofF t).toNat, by have := (of_abs hsm).1; omega⟩
          have HO := Lib.hid (fun w1 => of_calls w1 t hsm)
          rw [hq] at HO e
          obtain ⟨k, rfl, hk, hkl⟩ := nth_get ht
          obtain ⟨ids, vv, hv, pv, lv, tv, mv, bm, kvs, H⟩ := HSDI.out.sol
          obtain ⟨_, _, _, _, _, d5, _⟩ := H.cells
          obtain ⟨gt, ct, rfl, _, _, xt, _⟩ := row_at H.trail hkl
          rw [Option.some.inj ((List.getElem?_eq_getElem hkl).symm.trans hk)] at xt
          have hkI : (k : Int) < (s2.trail.length : Int) := by omega
          have HE := Lib.hid e
          have HKL := Lib.hid (And.intro hk hkl)
          have HQT := Lib.hid hq
          clear H e ht hk hkl hst hsm hq
          go_wp2_with fail
          refine (HO.out _).mono ?_
          rintro e3 w3 ⟨rfl, hf⟩
          have HSD3 := Lib.hid (HSDI.out.frm0 hf)
          have d5 := frm_cell hf d5
          have xt := frm_cell hf xt
          clear hf HO HSDI
          dsimp only
          have hlk := HSD3.out.seen.look (q : Int)
          by_cases hsn : (q : Int) ∈ seen2
          · rw [decide_eq_true hsn] at hlk
            have e := HE.out
            rw [if_pos hsn] at e
            cases e
            clear hsn
            have hwk : wrap64 ((k : Int) - 1) = (k : Int) - 1 := by have : maxLen = 9223372036854775807 := rfl; unfold wrap64; omega
            have hwc : wrap64 (count2 - 1) = count2 - 1 := by have := HCN.out; unfold wrap64; omega
            by_cases hc1 : count2 - 1 = 0
            · have e1 : (count2 - 1 == 0) = true := by simpa using hc1
              have hsp := HSP2.out
              rw [if_pos hc1] at hsp
              have hres := HRES.out
              rw [← Option.some.inj hsp] at hres
              injection hres with hr1 hr2
              injection hr2 with hr2 hr3
              subst hr1
              subst hr2
              subst hr3
              have hss := HSS.out
              split at hss
              case isTrue => cases hss
              rename_i hgd
              have hgd' : 0 < out2.length ∧ roomB out2.length = true := by simpa using hgd
              obtain ⟨r, hso, hrr⟩ := Option.map_eq_some_iff.1 hss
              cases hrr
              obtain ⟨go, co, hu6, _, _, y0, yz⟩ := row_at HSD3.out.row hgd'.1
              subst hu6
              have hneg : wrap64 (-m) = -m := by have := HSM.out; unfold Sml at this; unfold wrap64; omega
              have hol : (0 : Int) < (out2.length : Int) := by have := hgd'.1; omega
              have hol1 : (1 : Int) ≤ (out2.length : Int) := by omega
              have hcap := row_cap2 HSD3.out.row
              have hoc1 : (1 : Int) ≤ (co : Int) := by omega
              obtain ⟨A, hA⟩ : ∃ A, (if co = 1 then (some ⟨go, 0, none⟩ : Option Addr) else some ⟨go, 1, none⟩) = A := ⟨_, rfl⟩
              have HSD4 := Lib.hid (HSD3.out.set (i := 0) (m := -m) hgd'.1)
              have HSO := Lib.hid hso
              have HO40 := Lib.hid (room_of hgd'.2)
              have HOL := Lib.hid hgd'.1
              clear hsp hss hso hgd hc1 hcap
              go_wp2_with fail
              try rw [hneg]
              obtain ⟨w4, hw4⟩ : ∃ w4, w4 = w3.setCell ⟨go, 0, none⟩ (.int .i64 (-m)) := ⟨_, rfl⟩
              rw [← hw4] at HSD4 ⊢
              obtain ⟨out0, hout0⟩ : ∃ out0, out0 = out2.set 0 (-m) := ⟨_, rfl⟩
              rw [← hout0] at HSD4 HSO
              have HLEN : Hid (out0.length = out2.length) := Lib.hid (by rw [hout0]; simp)
              have HAA := Lib.hid hA
              clear hw4 hout0 hA y0 yz d5 xt hlk hol hol1 hoc1 HSD3
              go_loopw [14, 128] (fun v14 v128 w' => ∃ j : Nat, v128 = .int .i64 j ∧ j ≤ out2.length - 1 ∧ ∃ bj oj, v14 = .int .i64 bj ∧ Hid (sortF s' bj oj (out2.length - 1 - j) (j + 1) = some (lits, back)) ∧ Hid (oj.length = out2.length) ∧ Hid (Side R w RI w' p s' mb seen2 (.slice (some ⟨go, 0, none⟩) out2.length co) oj)) (fun _ v128 _ => out2.length - 1 - (intOf v128).toNat)
              case atStart => exact ⟨0, rfl, by omega, 0, out0, rfl, HSO, HLEN, HSD4⟩
              case round =>
                obtain ⟨j2, rfl, hj2, bj, oj, rfl, HSOj, HLj, HSDj⟩ := hrel
                by_cases hjl : j2 < out2.length - 1
                · have hjI : (j2 : Int) < ((out2.length - 1 : Nat) : Int) := by omega
                  have hcap := row_cap2 HSDj.out.row
                  have hA2 : A = some ⟨go, 1, none⟩ := by rw [← HAA.out]; exact if_neg (by omega)
                  subst hA2
                  have e := HSOj.out
                  obtain ⟨K, hK⟩ : ∃ K, out2.length - 1 - j2 = K + 1 := ⟨out2.length - 1 - j2 - 1, by omega⟩
                  rw [hK] at e
                  unfold sortF at e
                  split at e
                  case h_1 => cases e
                  rename_i m1 hm1
                  split at e
                  case isTrue => cases e
                  rename_i hsm1
                  have hsm1' := sml_of (n := m1) (by simpa using hsm1)
                  split at e
                  case h_1 => cases e
                  rename_i a1 ha1
                  have x1 : wr.cell? ⟨go, 1 + j2, none⟩ = some (iI m1) := by rw [Nat.add_comm]; exact row_get HSDj.out.row hm1
                  have HO := Lib.hid (fun w1 => of_calls w1 m1 hsm1')
                  obtain ⟨ids, vv, hv, pv, lv, tv, mv, bm, kvs, H⟩ := HSDj.out.sol
                  obtain ⟨d0, _⟩ := H.cells
                  obtain ⟨q1, g1, cc, hq1, hkl, hml, rfl, hrg, _, xl, _⟩ := fact_cells H ha1
                  rw [hq1] at HO
                  have hqI : (q1 : Int) < (s'.vars.length : Int) := by omega
                  have HE := Lib.hid e
                  have HM1 := Lib.hid hm1
                  have HKK := Lib.hid hK
                  clear H e hm1 hsm1 hsm1' ha1 hq1 hml hkl hrg hK hcap
                  go_wp2_with fail
                  refine Plan.wp_region_plan [0, 1, 3, 7, 0, 16, 63, 127, 255, 511] [.mk [0, 1, 2, 3, 4] 5 [0, 1, 2, 3]] [6, 7, 8, 9] (by kernel_rfl) (by kernel_rfl) ?_
                  simp only [Plan.wayOf, Plan.pickAll, List.getElem?_cons_zero, List.getElem?_cons_succ, List.getD_eq_getElem?_getD, Option.getD_some]
                  refine Plan.wpWay_seg ?_
                  repeat go_big_quiet_step (fail)
                  refine wpQuiet_nil ?_; refine Plan.wpWay_act ?_
                  go_wp2_with fail
                  refine (HO.out _).mono ?_
                  rintro e w5 ⟨rfl, hf⟩
                  have HF5 := Lib.hid (show Frm (fun _ => False) wr w5 from frm_then (Frm.refl _ _).drew hf)
                  have d0 := frm_cell HF5.out d0
                  have xl := frm_cell HF5.out xl
                  clear hf
                  dsimp only
                  go_wp2_with fail
                  refine And.intro ?_ ?_; focus ((iterate 4 (refine Plan.again_cons ?_ ?_; focus (go_big_quiet_step (fail); exact wpQuiet_nil rfl))); exact Plan.again_nil)
                  refine Plan.wpWay_last ?_
                  repeat go_big_quiet_step (fail)
                  refine wpQuiet_nil ?_; refine NoPanic.normal ?_
                  have HSD5 := Lib.hid (HSDj.out.frm0 HF5.out)
                  have HWJ := Lib.hid (wrap_nat (n := j2) (by have := HO40.out; omega))
                  clear HSDj x1 HO
                  by_cases hlt : bj < a1.level
                  · have e3 : decide (bj < a1.level) = true := by simpa using hlt
                    have e := HE.out
                    rw [if_pos hlt] at e
                    obtain ⟨o3, hsw, hso3⟩ := Option.bind_eq_some_iff.1 e
                    unfold swapF at hsw
                    split at hsw
                    case h_2 => cases hsw
                    rename_i y1 m2 hy1 hm2
                    have hmm : m2 = m1 := Option.some.inj (hm2.symm.trans HM1.out)
                    subst hmm
                    have z1 := row_get HSD5.out.row hy1
                    have z2 := row_get HSD5.out.row hm2
                    have hfz : ∀ i, w5.frozen? ⟨go, i, none⟩ = false := by
                      rcases HSD5.out.row.shape with ⟨e, _⟩ | ⟨_, _, e, _, _, _, _, hz⟩
                      · cases e
                      · injection e with ea eb ec
                        cases ea
                        exact hz
                    have hol1 : (1 : Int) < (out2.length : Int) := by omega
                    have hol2 : (j2 : Int) + 1 < (out2.length : Int) := by omega
                    have hl1 := HLj.out
                    have hset1 := HSD5.out.set (i := 1) (m := m2) (by omega)
                    obtain ⟨u3, hu3⟩ : ∃ u3, (oj.set 1 m2)[j2 + 1]? = some u3 := ⟨_, List.getElem?_eq_getElem (by simp; omega)⟩
                    have z3 := row_get hset1.row hu3
                    have hset := (HSD5.out.set (i := 1) (m := m2) (by omega)).set (i := j2 + 1) (m := y1) (by simp; omega)
                    rw [Option.some.inj hsw] at hset
                    have HSET := Lib.hid hset
                    have HSO3 := Lib.hid hso3
                    have HL3 : Hid (o3.length = out2.length) := Lib.hid (by rw [← Option.some.inj hsw]; simp; exact HLj.out)
                    clear e hsw hso3 hy1 hm2 hset hset1 hu3 hlt hl1 d0 xl
                    have hl63 : out2.length ≤ 9223372036854775807 := by have := HO40.out; omega
                    go_wp2_with fail
                    refine Plan.wp_region_plan [0, 0, 0, 4, 0, 0, 32, 112, 240, 0, 512, 1536, 4081, 8177, 16383, 32767] [.mk [0, 1, 2, 3, 4, 5, 6, 7, 8, 9, 10, 11, 12] 13 [1, 2, 3], .mk [14] 15 []] [] (by kernel_rfl) (by kernel_rfl) ?_
                    simp only [Plan.wayOf, Plan.pickAll, List.getElem?_cons_zero, List.getElem?_cons_succ, List.getD_eq_getElem?_getD, Option.getD_some]
                    refine Plan.wpWay_seg ?_
                    repeat go_big_quiet_step (fail)
                    refine wpQuiet_nil ?_; refine Plan.wpWay_act ?_
                    go_wp2_with (fail)
                    refine And.intro ?_ ?_; focus ((iterate 3 (refine Plan.again_cons ?_ ?_; focus (go_big_quiet_step (fail); exact wpQuiet_nil rfl))); exact Plan.again_nil)
                    refine Plan.wpWay_seg ?_
                    repeat go_big_quiet_step (fail)
                    refine wpQuiet_nil ?_; refine Plan.wpWay_act ?_
                    go_wp2_with (fail)
                    refine And.intro Plan.again_nil ?_
                    refine Plan.wpWay_last ?_
                    refine wpQuiet_nil ?_; refine NoPanic.normal ?_
                    obtain ⟨w6, hw6⟩ : ∃ w6, w6 = ((w5.setCell ⟨go, 1, none⟩ (.int .i64 m2)).setCell ⟨go, j2 + 1, none⟩ (.int .i64 y1)).drew := ⟨_, rfl⟩
                    rw [← hw6]
                    have HSD6 : Hid (Side R w RI w6 p s' mb seen2 (.slice (some ⟨go, 0, none⟩) out2.length co) o3) := Lib.hid (by rw [hw6]; exact HSET.out.frm0 (Frm.refl _ _).drew)
                    clear hw6 HSET z1 z2 z3 hfz
                    go_wp2
                    go_roundw
                    case rel => exact ⟨j2 + 1, by rfl, hjl, a1.level, o3, rfl, sort_more HSO3 HKK, HL3, HSD6⟩
                    case measure => clear HWJ; simp only [intOf]; omega
                  · have e3 : decide (bj < a1.level) = false := by simpa using hlt
                    have e := HE.out
                    rw [if_neg hlt] at e
                    have HE2 := Lib.hid e
                    clear e hlt d0 xl
                    go_wp2
                    go_roundw
                    case rel => exact ⟨j2 + 1, by rw [HWJ.out]; rfl, hjl, bj, oj, rfl, sort_more HE2 HKK, HLj, HSD5⟩
                    case measure => rw [HWJ.out]; simp only [intOf]; omega
                · have hjI : ¬ (j2 : Int) < ((out2.length - 1 : Nat) : Int) := by omega
                  have e := HSOj.out
                  rw [show out2.length - 1 - j2 = 0 by omega] at e
                  cases e
                  go_wp2
                  go_ret2
                  exact ⟨_, RI, rfl, HSDj.out.row, fun g e => ⟨(HSDj.out.own g e).1, (HSDj.out.own g e).2.1⟩, HSDj.out.sol, HSDj.out.mov⟩
            · have e1 : (count2 - 1 == 0) = false := by simpa using hc1
              have hsp := HSP2.out
              rw [if_neg hc1] at hsp
              split at hsp
              case h_1 => cases hsp
              rename_i d hd
              obtain ⟨a, ha, hrd⟩ := Option.bind_eq_some_iff.1 hd
              obtain ⟨ids, vv, hv, pv, lv, tv, mv, bm, kvs, H⟩ := HSD3.out.sol
              obtain ⟨d0, _⟩ := H.cells
              obtain ⟨q1, g1, cc, hq1, hkl, hml, rfl, hrg, _, _, x2, _⟩ := fact_cells H ha
              have hqq : q1 = q := by have := HQT.out; omega
              subst hqq
              have hqI : (q1 : Int) < (s2.vars.length : Int) := by omega
              have hdl : d < s2.cls.length := H.refs.1 a (List.mem_of_getElem? (nth_get ha).choose_spec.2.1) d hrd
              obtain ⟨bd, hbd1, hbd2, _⟩ := H.clAt hdl
              rw [hrd, show encR ids (some d) = encC ids d from rfl, hbd1] at x2
              have HO := Lib.hid (fun w1 => of_calls w1 m HSM.out)
              rw [hq1] at HO
              have HBD := Lib.hid hbd2
              have HSPN := Lib.hid hsp
              clear H hsp hd ha hrd hq1 hml hkl hrg hdl hbd1 hbd2 hc1
              go_wp2_with fail
              refine Plan.wp_region_plan [0, 1, 3, 7, 0, 16, 63, 127, 255, 511] [.mk [0, 1, 2, 3, 4] 5 [0, 1, 2, 3]] [6, 7, 8, 9] (by kernel_rfl) (by kernel_rfl) ?_
              simp only [Plan.wayOf, Plan.pickAll, List.getElem?_cons_zero, List.getElem?_cons_succ, List.getD_eq_getElem?_getD, Option.getD_some]
              refine Plan.wpWay_seg ?_
              repeat go_big_quiet_step (fail)
              refine wpQuiet_nil ?_; refine Plan.wpWay_act ?_
              go_wp2_with fail
              refine (HO.out _).mono ?_
              rintro e w5 ⟨rfl, hf⟩
              have HF5 := Lib.hid (show Frm (fun _ => False) w3 w5 from frm_then (Frm.refl _ _).drew hf)
              have d0 := frm_cell HF5.out d0
              have x2 := frm_cell HF5.out x2
              clear hf
              dsimp only
              go_wp2_with fail
              refine And.intro ?_ ?_; focus ((iterate 4 (refine Plan.again_cons ?_ ?_; focus (go_big_quiet_step (fail); exact wpQuiet_nil rfl))); exact Plan.again_nil)
              refine Plan.wpWay_last ?_
              repeat go_big_quiet_step (fail)
              refine wpQuiet_nil ?_; refine NoPanic.normal ?_
              have HI : Hid (LInv R w p mb res k0 (.pointer (some ⟨bd, 0, none⟩)) u6 (.int .i64 (count2 - 1)) (.int .i64 ((k : Int) - 1)) (.int .i64 m) w5) := Lib.hid ⟨s2, RI, d, bd, m, seen2, count2 - 1, (k : Int) - 1, out2, HSPN.out, rfl, HBD.out, rfl, rfl, rfl, by omega, HSD3.out.frm0 HF5.out⟩
              have HWK := Lib.hid hwk
              have HWC := Lib.hid hwc
              clear HSD3 HO HF5 d0 x2 hlk hwk hwc d5 xt
              go_wp2
              rw [HWK.out, HWC.out]
              refine ⟨Lib.hid ⟨k0, HI.out⟩, ?_⟩
              rw [← HK0.out]
              exact Nat.lt_succ_of_le ((leastK_spec ⟨k0, HI.out⟩).2 k0 HI.out)
          · rw [decide_eq_false hsn] at hlk
            have e := HE.out
            rw [if_neg hsn] at e
            have hk1 : 1 ≤ k := by
              cases fuel with
              | zero => cases e
              | succ f =>
                unfold lastSeen at e
                split at e
                · cases e
                · rename_i y hy
                  have := (nth_get hy).choose_spec.1
                  omega
            have HE2 := Lib.hid e
            have hwk : wrap64 ((k : Int) - 1) = (k : Int) - 1 := by have : maxLen = 9223372036854775807 := rfl; unfold wrap64; omega
            clear e hsn d5 xt
            go_wp2
            go_roundw
            case rel => exact ⟨(k : Int) - 1, by rw [hwk], by omega, fuel, HE2, HSD3⟩
            case measure => rw [hwk]; simp only [intOf]; omega
end
end SaW
end Go.Proofs.Ytfpjfogddepbkaa
/- A new solver; its greatest variable; how much it has learnt, walked. -/
namespace Go.Proofs.Ytfpjfogddepbkaa
open Go.RowKit Go.Mem Go.Sat
namespace SaW
def newR (n : Nat) : Nat → Option Role := fun b => if b = n then some .vars else if b = n + 1 then some .place else if b = n + 2 then some .map else if b = n + 3 then some .me else none
def newW (w : World) : World := (((w.alloc (.cells #[.int .i64 0, .int .i64 0, .pointer none, .int .i64 0, .int .i64 0] 73)).alloc (.cells #[.int .i64 (-1)] 3)).alloc (.map #[] 0)).alloc (.cells #[.slice (some ⟨w.heap.size, 0, none⟩) 1 1, .slice none 0 0, .slice (some ⟨w.heap.size + 1, 0, none⟩) 1 1, .map (some (w.heap.size + 2)), .slice none 0 0, .slice none 0 0, .slice none 0 0, .int .i64 0, .int .i64 0, .int .i64 0, .int .i64 1, .bool false] 49)
theorem new_at (w : World) : SolverAt (newW w) (newR w.heap.size) (w.heap.size + 3) Sat.new := by
  have h0 : (newW w).heap[w.heap.size]? = some (.cells #[.int .i64 0, .int .i64 0, .pointer none, .int .i64 0, .int .i64 0] 73) := blk_alloc (blk_alloc (blk_alloc (blk_new _) _) _) _
  have h1 : (newW w).heap[w.heap.size + 1]? = some (.cells #[.int .i64 (-1)] 3) := blk_alloc (blk_alloc (blk_new_at _ (by simp)) _) _
  have h2 : (newW w).heap[w.heap.size + 2]? = some (.map #[] 0) := blk_alloc (blk_new_at _ (by simp)) _
  have h3 := blk_new_at (w := (((w.alloc (.cells #[.int .i64 0, .int .i64 0, .pointer none, .int .i64 0, .int .i64 0] 73)).alloc (.cells #[.int .i64 (-1)] 3)).alloc (.map #[] 0))) (n := w.heap.size + 3) (.cells #[.slice (some ⟨w.heap.size, 0, none⟩) 1 1, .slice none 0 0, .slice (some ⟨w.heap.size + 1, 0, none⟩) 1 1, .map (some (w.heap.size + 2)), .slice none 0 0, .slice none 0 0, .slice none 0 0, .int .i64 0, .int .i64 0, .int .i64 0, .int .i64 1, .bool false] 49) (by simp)
  refine ⟨[], .slice (some ⟨w.heap.size, 0, none⟩) 1 1, .slice none 0 0, .slice (some ⟨w.heap.size + 1, 0, none⟩) 1 1, .slice none 0 0, .slice none 0 0, .slice none 0 0, w.heap.size + 2, [], h3, ?_, Row.nil _ _ _, ?_, Row.nil _ _ _, Row.nil _ _ _, Row.nil _ _ _, ?_, rfl, fun i n v l h => (by simp at h), rfl, fun c x h => (by simp [Sat.new] at h), ?_, ?_, fun g e => (by cases e), ?_, fun g e => (by cases e), fun g e => (by cases e), fun g e => (by cases e), ?_, fun b r hb => ?_, ⟨?_, ?_, ?_⟩, by simp [Sat.new], fun b c hb => ?_⟩
  · exact ⟨rfl, .inr ⟨_, 1, _, rfl, Nat.zero_le _, h0, Nat.le_refl _, by decide, rfl, rfl⟩⟩
  · exact ⟨rfl, .inr ⟨_, 1, _, rfl, Nat.zero_le _, h1, Nat.le_refl _, by decide, rfl, rfl⟩⟩
  · exact ⟨_, _, h2, rfl, by simp, by simp⟩
  · simp [newR]
  · intro g e; cases e; simp [newR]
  · intro g e; cases e; simp [newR]
  · simp [newR]
  · have : (newW w).heap.size = w.heap.size + 4 := by simp [newW]
    rw [this]
    unfold newR at hb
    split at hb
    · omega
    · split at hb
      · omega
      · split at hb
        · omega
        · split at hb
          · omega
          · cases hb
  · intro x hx c hc
    simp [Sat.new] at hx
    subst hx
    cases hc
  · intro x hx; simp [Sat.new] at hx
  · intro c hc; simp [Sat.new] at hc
  · unfold newR at hb
    split at hb
    · cases hb
    · split at hb
      · cases hb
      · split at hb
        · cases hb
        · split at hb <;> cases hb
set_option maxRecDepth 100000 in
set_option maxHeartbeats 1000000 in
theorem new_calls (w : World) : Calls Try.prog 7 #[] w fun e w' => ∃ p R, e = .returned (.pointer (some ⟨p, 0, none⟩)) ∧ SolverAt w' R p Sat.new ∧ Frm (fun _ => False) w w' ∧ ∀ b, R b ≠ none → w.heap.size ≤ b := by
  have hmm := @run_makeMap Try.prog
  have hS := Lib.hid (new_at w)
  have hmk : ∀ W : World, (Instr.makeSlice 45 (.int .i64 1) (.int .i64 1)).run Try.prog W = .ok (.slice (some ⟨W.heap.size, 0, none⟩) 1 1) (W.alloc (.cells #[.int .i64 0, .int .i64 0, .pointer none, .int .i64 0, .int .i64 0] 73)) := fun _ => by kernel_rfl
  go_enter Try.func7, Try.ntmps7
  go_wp2
  go_ret
  refine ⟨w.heap.size + 3, newR w.heap.size, rfl, hS.out, (((frm_alloc w _).alloc _).alloc _).alloc _, fun b hb => ?_⟩
  unfold newR at hb
  split at hb
  · omega
  · split at hb
    · omega
    · split at hb
      · omega
      · split at hb
        · omega
        · exact absurd rfl hb
section
variable {w : World} {R : Nat → Option Role} {p : Nat} {s s' : St}
set_option maxRecDepth 100000 in
theorem vars_calls (h : SolverAt w R p s) : Calls Try.prog 20 #[.pointer (some ⟨p, 0, none⟩)] w fun e w' => e = .returned (.int .i64 ((s.vars.length : Int) - 1)) ∧ Frm (fun _ => False) w w' := by
  obtain ⟨ids, vv, hv, pv, lv, tv, mv, bm, kvs, H⟩ := h
  obtain ⟨c0, _⟩ := H.cells
  have hl : s.vars.length ≤ 9223372036854775807 := H.vars.len
  obtain ⟨A, c, rfl, _⟩ := H.vars.slice
  clear H
  have hw : wrap64 ((s.vars.length : Int) - 1) = (s.vars.length : Int) - 1 := by unfold wrap64; omega
  go_enter Try.func20, Try.ntmps20
  go_wp2
  go_ret
  exact ⟨rfl, Frm.refl _ _⟩
set_option maxRecDepth 100000 in
theorem learnt_calls (h : SolverAt w R p s) : Calls Try.prog 19 #[.pointer (some ⟨p, 0, none⟩)] w fun e w' => e = .returned (.int .i64 (s.learnt.length : Nat)) ∧ Frm (fun _ => False) w w' := by
  obtain ⟨ids, vv, hv, pv, lv, tv, mv, bm, kvs, H⟩ := h
  obtain ⟨_, _, _, _, c4, _⟩ := H.cells
  have hl : s.learnt.length ≤ 9223372036854775807 := H.learnt.sees.len
  obtain ⟨A, c, rfl, _⟩ := sees_slice H.learnt.sees
  clear H
  go_enter Try.func19, Try.ntmps19
  go_wp2
  go_ret
  exact ⟨rfl, Frm.refl _ _⟩
end
end SaW
end Go.Proofs.Ytfpjfogddepbkaa
/- The contracts of the library functions that this program calls, laid at its dump. -/
namespace Go.Proofs
open Go.Shelf
def Try.lays128_ren : Go.Shelf.Ren := ⟨fun | 128 => 76 | n => n, fun | 51 => 100 | 3 => 3 | 4 => 4 | 46 => 70 | 5 => 5 | 9 => 9 | n => n, fun | n => n⟩
theorem Try.lays128 : Go.Proofs.Lays.n128 Try.prog Try.lays128_ren := {
  mixed := by kernel_rfl
  f128 := Try.func76.trans (congrArg some (by kernel_rfl))
  t3 := Try.underlying3
  a3 := Try.isAgg3
  z3 := Try.sizeOf3
  v3 := Try.zeroValue3
  t4 := Try.underlying4
  a4 := Try.isAgg4
  z4 := Try.sizeOf4
  v4 := Try.zeroValue4
  t5 := Try.underlying5
  a5 := Try.isAgg5
  z5 := Try.sizeOf5
  v5 := Try.zeroValue5
  t9 := Try.underlying9
  a9 := Try.isAgg9
  z9 := Try.sizeOf9
  v9 := Try.zeroValue9
  t46 := Try.underlying70
  a46 := Try.isAgg70
  z46 := Try.sizeOf70
  v46 := Try.zeroValue70
  t51 := Try.underlying100
  a51 := Try.isAgg100
  z51 := Try.sizeOf100
  v51 := Try.zeroValue100 }
theorem Try.bits_Len32 (x : Int) (w : World) (h0 : 0 ≤ x) (h1 : x ≤ 4294967295) :
    Calls Try.prog 76 #[.int .u32 x] w fun e w' => e = .returned (.int .i64 (Lib.bitLen x.toNat)) ∧ w' = w := Any.bits_Len32 Try.lays128 x w h0 h1
def Try.lays125_ren : Go.Shelf.Ren := ⟨fun | 125 => 61 | 128 => 76 | 129 => 77 | n => n, fun | 46 => 70 | 3 => 3 | 51 => 100 | 53 => 102 | 4 => 4 | 5 => 5 | 9 => 9 | n => n, fun | n => n⟩
theorem Try.lays125 : Go.Proofs.Lays.n125 Try.prog Try.lays125_ren := {
  mixed := by kernel_rfl
  f125 := Try.func61.trans (congrArg some (by kernel_rfl))
  f128 := Try.func76.trans (congrArg some (by kernel_rfl))
  f129 := Try.func77.trans (congrArg some (by kernel_rfl))
  t3 := Try.underlying3
  a3 := Try.isAgg3
  z3 := Try.sizeOf3
  v3 := Try.zeroValue3
  t4 := Try.underlying4
  a4 := Try.isAgg4
  z4 := Try.sizeOf4
  v4 := Try.zeroValue4
  t5 := Try.underlying5
  a5 := Try.isAgg5
  z5 := Try.sizeOf5
  v5 := Try.zeroValue5
  t9 := Try.underlying9
  a9 := Try.isAgg9
  z9 := Try.sizeOf9
  v9 := Try.zeroValue9
  t46 := Try.underlying70
  a46 := Try.isAgg70
  z46 := Try.sizeOf70
  v46 := Try.zeroValue70
  t51 := Try.underlying100
  a51 := Try.isAgg100
  z51 := Try.sizeOf100
  v51 := Try.zeroValue100
  t53 := Try.underlying102
  a53 := Try.isAgg102
  z53 := Try.sizeOf102
  v53 := Try.zeroValue102 }
theorem Try.bits_Len (x : Int) (w : World) (h0 : 0 ≤ x) (h1 : x ≤ 18446744073709551615) :
    Calls Try.prog 61 #[.int .u64 x] w fun e w' => e = .returned (.int .i64 (Lib.bitLen x.toNat)) ∧ w' = w := Any.bits_Len Try.lays125 x w h0 h1
def Try.lays215_ren : Go.Shelf.Ren := ⟨fun | 215 => 86 | n => n, fun | 3 => 3 | 4 => 4 | n => n, fun | n => n⟩
theorem Try.lays215 : Go.Proofs.Lays.n215 Try.prog Try.lays215_ren := {
  mixed := by kernel_rfl
  f215 := Try.func86.trans (congrArg some (by kernel_rfl))
  t3 := Try.underlying3
  a3 := Try.isAgg3
  z3 := Try.sizeOf3
  v3 := Try.zeroValue3
  t4 := Try.underlying4
  a4 := Try.isAgg4
  z4 := Try.sizeOf4
  v4 := Try.zeroValue4 }
open Go.RowKit in
theorem Try.cmp_isNaN_int (x : Int) (w : World) :
    Calls Try.prog 86 #[.int .i64 x] w fun e w' => e = .returned (.bool false) ∧ w' = w := Any.cmp_isNaN_int Try.lays215 x w
def Try.lays129_ren : Go.Shelf.Ren := ⟨fun | 129 => 77 | n => n, fun | 53 => 102 | 3 => 3 | 4 => 4 | 46 => 70 | 5 => 5 | 9 => 9 | n => n, fun | n => n⟩
theorem Try.lays129 : Go.Proofs.Lays.n129 Try.prog Try.lays129_ren := {
  mixed := by kernel_rfl
  f129 := Try.func77.trans (congrArg some (by kernel_rfl))
  t3 := Try.underlying3
  a3 := Try.isAgg3
  z3 := Try.sizeOf3
  v3 := Try.zeroValue3
  t4 := Try.underlying4
  a4 := Try.isAgg4
  z4 := Try.sizeOf4
  v4 := Try.zeroValue4
  t5 := Try.underlying5
  a5 := Try.isAgg5
  z5 := Try.sizeOf5
  v5 := Try.zeroValue5
  t9 := Try.underlying9
  a9 := Try.isAgg9
  z9 := Try.sizeOf9
  v9 := Try.zeroValue9
  t46 := Try.underlying70
  a46 := Try.isAgg70
  z46 := Try.sizeOf70
  v46 := Try.zeroValue70
  t53 := Try.underlying102
  a53 := Try.isAgg102
  z53 := Try.sizeOf102
  v53 := Try.zeroValue102 }
theorem Try.bits_Len64 (x : Int) (w : World) (h0 : 0 ≤ x) (h1 : x ≤ 18446744073709551615) :
    Calls Try.prog 77 #[.int .u64 x] w fun e w' => e = .returned (.int .i64 (Lib.bitLen x.toNat)) ∧ w' = w := Any.bits_Len64 Try.lays129 x w h0 h1
def Try.lays189_ren : Go.Shelf.Ren := ⟨fun | 189 => 47 | 125 => 61 | 257 => 60 | 128 => 76 | 129 => 77 | 294 => 67 | 295 => 68 | 296 => 69 | 297 => 70 | 298 => 71 | 299 => 72 | 216 => 73 | 300 => 74 | 301 => 75 | 328 => 81 | 329 => 82 | 330 => 83 | 331 => 84 | 332 => 85 | 215 => 86 | 343 => 88 | n => n, fun | 28 => 26 | 3 => 3 | 46 => 70 | 0 => 0 | 51 => 100 | 53 => 102 | 4 => 4 | 183 => 94 | 182 => 93 | 131 => 66 | 5 => 5 | 9 => 9 | 218 => 105 | 222 => 109 | 228 => 111 | 229 => 112 | n => n, fun | n => n⟩
theorem Try.lays189 : Go.Proofs.Lays.n189 Try.prog Try.lays189_ren := {
  mixed := by kernel_rfl
  f125 := Try.func61.trans (congrArg some (by kernel_rfl))
  f128 := Try.func76.trans (congrArg some (by kernel_rfl))
  f129 := Try.func77.trans (congrArg some (by kernel_rfl))
  f189 := Try.func47.trans (congrArg some (by kernel_rfl))
  f215 := Try.func86.trans (congrArg some (by kernel_rfl))
  f216 := Try.func73.trans (congrArg some (by kernel_rfl))
  f257 := Try.func60.trans (congrArg some (by kernel_rfl))
  f294 := Try.func67.trans (congrArg some (by kernel_rfl))
  f295 := Try.func68.trans (congrArg some (by kernel_rfl))
  f296 := Try.func69.trans (congrArg some (by kernel_rfl))
  f297 := Try.func70.trans (congrArg some (by kernel_rfl))
  f298 := Try.func71.trans (congrArg some (by kernel_rfl))
  f299 := Try.func72.trans (congrArg some (by kernel_rfl))
  f300 := Try.func74.trans (congrArg some (by kernel_rfl))
  f301 := Try.func75.trans (congrArg some (by kernel_rfl))
  f328 := Try.func81.trans (congrArg some (by kernel_rfl))
  f329 := Try.func82.trans (congrArg some (by kernel_rfl))
  f330 := Try.func83.trans (congrArg some (by kernel_rfl))
  f331 := Try.func84.trans (congrArg some (by kernel_rfl))
  f332 := Try.func85.trans (congrArg some (by kernel_rfl))
  f343 := Try.func88.trans (congrArg some (by kernel_rfl))
  t0 := Try.underlying0
  a0 := Try.isAgg0
  z0 := Try.sizeOf0
  v0 := Try.zeroValue0
  t3 := Try.underlying3
  a3 := Try.isAgg3
  z3 := Try.sizeOf3
  v3 := Try.zeroValue3
  t4 := Try.underlying4
  a4 := Try.isAgg4
  z4 := Try.sizeOf4
  v4 := Try.zeroValue4
  t5 := Try.underlying5
  a5 := Try.isAgg5
  z5 := Try.sizeOf5
  v5 := Try.zeroValue5
  t9 := Try.underlying9
  a9 := Try.isAgg9
  z9 := Try.sizeOf9
  v9 := Try.zeroValue9
  t28 := Try.underlying26
  a28 := Try.isAgg26
  z28 := Try.sizeOf26
  v28 := Try.zeroValue26
  t46 := Try.underlying70
  a46 := Try.isAgg70
  z46 := Try.sizeOf70
  v46 := Try.zeroValue70
  t51 := Try.underlying100
  a51 := Try.isAgg100
  z51 := Try.sizeOf100
  v51 := Try.zeroValue100
  t53 := Try.underlying102
  a53 := Try.isAgg102
  z53 := Try.sizeOf102
  v53 := Try.zeroValue102
  t131 := Try.underlying66
  a131 := Try.isAgg66
  z131 := Try.sizeOf66
  v131 := Try.zeroValue66
  t182 := Try.underlying93
  a182 := Try.isAgg93
  z182 := Try.sizeOf93
  v182 := Try.zeroValue93
  t183 := Try.underlying94
  a183 := Try.isAgg94
  z183 := Try.sizeOf94
  v183 := Try.zeroValue94
  t218 := Try.underlying105
  a218 := Try.isAgg105
  z218 := Try.sizeOf105
  v218 := Try.zeroValue105
  t222 := Try.underlying109
  a222 := Try.isAgg109
  z222 := Try.sizeOf109
  v222 := Try.zeroValue109
  t228 := Try.underlying111
  a228 := Try.isAgg111
  z228 := Try.sizeOf111
  v228 := Try.zeroValue111
  t229 := Try.underlying112
  a229 := Try.isAgg112
  z229 := Try.sizeOf112
  v229 := Try.zeroValue112 }
open Go.Sort Go.RowKit in
theorem Try.slices_Sort_int (blk off cap : Nat) (zs : List Int) (w : World) (hH : Holds (Value.int .i64) w blk off zs.toArray) (hblk : blk < w.heap.size) (hsz : zs.length < 4611686018427387904) :
    Calls Try.prog 47 #[.slice (some ⟨blk, off, none⟩) zs.length cap] w fun e w' =>
      e = .returned (.tuple #[]) ∧ ∃ n os, w' = grow (putRow (Value.int .i64) (Sort.ahead w n) blk off (zs.mergeSort fun x y => decide (x ≤ y)).toArray) os := Any.slices_Sort_int Try.lays189 blk off cap zs w hH hblk hsz
def Try.lays108_ren : Go.Shelf.Ren := ⟨fun | 108 => 62 | n => n, fun | 28 => 26 | 3 => 3 | 0 => 0 | 4 => 4 | n => n, fun | n => n⟩
theorem Try.lays108 : Go.Proofs.Lays.n108 Try.prog Try.lays108_ren := {
  mixed := by kernel_rfl
  f108 := Try.func62.trans (congrArg some (by kernel_rfl))
  t0 := Try.underlying0
  a0 := Try.isAgg0
  z0 := Try.sizeOf0
  v0 := Try.zeroValue0
  t3 := Try.underlying3
  a3 := Try.isAgg3
  z3 := Try.sizeOf3
  v3 := Try.zeroValue3
  t4 := Try.underlying4
  a4 := Try.isAgg4
  z4 := Try.sizeOf4
  v4 := Try.zeroValue4
  t28 := Try.underlying26
  a28 := Try.isAgg26
  z28 := Try.sizeOf26
  v28 := Try.zeroValue26 }
open Go.Lib in
theorem Try.slices_Index_int (b off n c : Nat) (zs : List Int) (x : Int) (w : World) (hz : n ≤ zs.length) (hbig : n ≤ 9223372036854775807) (hc : ∀ j, j < zs.length → w.cell? ⟨b, off + j, none⟩ = some (.int .i64 (zs.getD j 0))) :
    Calls Try.prog 62 #[.slice (some ⟨b, off, none⟩) n c, .int .i64 x] w fun e w' => e = .returned (.int .i64 (Lib.idxOf (zs.take n) x)) ∧ w' = w := Any.slices_Index_int Try.lays108 b off n c zs x w hz hbig hc
open Go.Lib in
theorem Try.slices_Index_int_empty (a : Option Addr) (c : Nat) (x : Int) (w : World) :
    Calls Try.prog 62 #[.slice a 0 c, .int .i64 x] w fun e w' => e = .returned (.int .i64 (Lib.idxOf [] x)) ∧ w' = w := Any.slices_Index_int_empty Try.lays108 a c x w
def Try.lays107_ren : Go.Shelf.Ren := ⟨fun | 107 => 49 | 108 => 62 | n => n, fun | 28 => 26 | 3 => 3 | 4 => 4 | 0 => 0 | n => n, fun | n => n⟩
theorem Try.lays107 : Go.Proofs.Lays.n107 Try.prog Try.lays107_ren := {
  mixed := by kernel_rfl
  f107 := Try.func49.trans (congrArg some (by kernel_rfl))
  f108 := Try.func62.trans (congrArg some (by kernel_rfl))
  t0 := Try.underlying0
  a0 := Try.isAgg0
  z0 := Try.sizeOf0
  v0 := Try.zeroValue0
  t3 := Try.underlying3
  a3 := Try.isAgg3
  z3 := Try.sizeOf3
  v3 := Try.zeroValue3
  t4 := Try.underlying4
  a4 := Try.isAgg4
  z4 := Try.sizeOf4
  v4 := Try.zeroValue4
  t28 := Try.underlying26
  a28 := Try.isAgg26
  z28 := Try.sizeOf26
  v28 := Try.zeroValue26 }
open Go.Lib in
theorem Try.slices_Contains_int (b off n c : Nat) (zs : List Int) (x : Int) (w : World) (hz : n ≤ zs.length) (hbig : n ≤ 9223372036854775807) (hc : ∀ j, j < zs.length → w.cell? ⟨b, off + j, none⟩ = some (.int .i64 (zs.getD j 0))) :
    Calls Try.prog 49 #[.slice (some ⟨b, off, none⟩) n c, .int .i64 x] w fun e w' => e = .returned (.bool ((zs.take n).contains x)) ∧ w' = w := Any.slices_Contains_int Try.lays107 b off n c zs x w hz hbig hc
open Go.Lib in
theorem Try.slices_Contains_int_empty (a : Option Addr) (c : Nat) (x : Int) (w : World) :
    Calls Try.prog 49 #[.slice a 0 c, .int .i64 x] w fun e w' => e = .returned (.bool false) ∧ w' = w := Any.slices_Contains_int_empty Try.lays107 a c x w
def Try.laysNm215_ren : Go.Shelf.Ren := ⟨fun | 15 => 46 | n => n, fun | 22 => 26 | 3 => 3 | 4 => 4 | n => n, fun | n => n⟩
theorem Try.laysNm215 : Go.Proofs.Lays2.n15 Try.prog Try.laysNm215_ren := {
  mixed := by kernel_rfl
  f15 := Try.func46.trans (congrArg some (by kernel_rfl))
  t3 := Try.underlying3
  a3 := Try.isAgg3
  z3 := Try.sizeOf3
  v3 := Try.zeroValue3
  t4 := Try.underlying4
  a4 := Try.isAgg4
  z4 := Try.sizeOf4
  v4 := Try.zeroValue4
  t22 := Try.underlying26
  a22 := Try.isAgg26
  z22 := Try.sizeOf26
  v22 := Try.zeroValue26
  i3 := by kernel_rfl }
open Go.RowKit Go.Lib in
theorem Try.slices_Clone_int (b off n c : Nat) (zs : List Int) (w : World) (hz : n ≤ zs.length) (hbig : n * 8 ≤ 140737488355328) (hc : ∀ j, j < zs.length → w.cell? ⟨b, off + j, none⟩ = some (.int .i64 (zs.getD j 0))) :
    Calls Try.prog 46 #[.slice (some ⟨b, off, none⟩) n c] w fun e w' => ∃ v', e = .returned v' ∧ w'.ownsRow w.heap.size 3 1 v' n ((zs.take n).map (Value.int .i64)) ∧ v' ≠ .slice none 0 0 ∧ Below w.heap.size w w' := Any.slices_Clone_int Try.laysNm215 b off n c zs w hz hbig hc
open Go.RowKit Go.Lib in
theorem Try.slices_Clone_int_nil (n c : Nat) (w : World) :
    Calls Try.prog 46 #[.slice none n c] w fun e w' => e = .returned (.slice none 0 0) ∧ w' = w := Any.slices_Clone_int_nil Try.laysNm215 n c w
open Go.RowKit Go.Lib in
theorem Try.slices_Clone_int_zero (a : Addr) (c : Nat) (w : World) :
    Calls Try.prog 46 #[.slice (some a) 0 c] w fun e w' => ∃ v', e = .returned v' ∧ w'.ownsRow w.heap.size 3 1 v' 0 [] ∧ v' ≠ .slice none 0 0 ∧ Below w.heap.size w w' := Any.slices_Clone_int_zero Try.laysNm215 a c w
def Try.laysNm220_ren : Go.Shelf.Ren := ⟨fun | 20 => 48 | n => n, fun | 22 => 26 | 3 => 3 | 4 => 4 | 0 => 0 | n => n, fun | n => n⟩
theorem Try.laysNm220 : Go.Proofs.Lays2.n20 Try.prog Try.laysNm220_ren := {
  mixed := by kernel_rfl
  f20 := Try.func48.trans (congrArg some (by kernel_rfl))
  t0 := Try.underlying0
  a0 := Try.isAgg0
  z0 := Try.sizeOf0
  v0 := Try.zeroValue0
  t3 := Try.underlying3
  a3 := Try.isAgg3
  z3 := Try.sizeOf3
  v3 := Try.zeroValue3
  t4 := Try.underlying4
  a4 := Try.isAgg4
  z4 := Try.sizeOf4
  v4 := Try.zeroValue4
  t22 := Try.underlying26
  a22 := Try.isAgg26
  z22 := Try.sizeOf26
  v22 := Try.zeroValue26
  i3 := by kernel_rfl }
open Go.RowKit Go.Lib Go.Sort in
theorem Try.slices_Compact_int_arr (blk off cap : Nat) (d : Array Int) (w : World) (hH : Holds encI w blk off d) (hsz : d.size ≤ 9223372036854775807) (hcap : d.size ≤ cap) :
    Calls Try.prog 48 #[.slice (some ⟨blk, off, none⟩) d.size cap] w fun e w' => e = .returned (.slice (some ⟨blk, off, none⟩) (compactUpTo d d.size).length cap) ∧ ∃ q, w' = putRow encI (Sort.ahead w q) blk off (compactUpTo d d.size ++ List.replicate (d.size - (compactUpTo d d.size).length) 0).toArray := Any.slices_Compact_int_arr Try.laysNm220 blk off cap d w hH hsz hcap
open Go.RowKit Go.Lib Go.Sort in
theorem Try.slices_Compact_int (blk off cap : Nat) (zs : List Int) (w : World) (hH : Holds (Value.int .i64) w blk off zs.toArray) (hsz : zs.length ≤ 9223372036854775807) (hcap : zs.length ≤ cap) :
    Calls Try.prog 48 #[.slice (some ⟨blk, off, none⟩) zs.length cap] w fun e w' => e = .returned (.slice (some ⟨blk, off, none⟩) (Lib.compact zs).length cap) ∧ ∃ q, w' = putRow (Value.int .i64) (Sort.ahead w q) blk off (Lib.compact zs ++ List.replicate (zs.length - (Lib.compact zs).length) 0).toArray := Any.slices_Compact_int Try.laysNm220 blk off cap zs w hH hsz hcap
open Go.RowKit Go.Lib Go.Sort in
theorem Try.slices_Compact_int_empty (a : Option Addr) (cap : Nat) (w : World) :
    Calls Try.prog 48 #[.slice a 0 cap] w fun e w' => e = .returned (.slice a 0 cap) ∧ w' = w := Any.slices_Compact_int_empty Try.laysNm220 a cap w
def Try.laysNm237_ren : Go.Shelf.Ren := ⟨fun | 37 => 86 | n => n, fun | 3 => 3 | 4 => 4 | n => n, fun | n => n⟩
theorem Try.laysNm237 : Go.Proofs.Lays2.n37 Try.prog Try.laysNm237_ren := {
  mixed := by kernel_rfl
  f37 := Try.func86.trans (congrArg some (by kernel_rfl))
  t3 := Try.underlying3
  a3 := Try.isAgg3
  z3 := Try.sizeOf3
  v3 := Try.zeroValue3
  t4 := Try.underlying4
  a4 := Try.isAgg4
  z4 := Try.sizeOf4
  v4 := Try.zeroValue4 }
open Go.RowKit Go.Lib in
theorem Try.cmp_isNaN_int2 (x : Int) (w : World) :
    Calls Try.prog 86 #[.int .i64 x] w fun e w' => e = .returned (.bool false) ∧ w' = w := Any.cmp_isNaN_int2 Try.laysNm237 x w
def Try.laysNm231_ren : Go.Shelf.Ren := ⟨fun | 31 => 73 | 37 => 86 | n => n, fun | 3 => 3 | 4 => 4 | n => n, fun | n => n⟩
theorem Try.laysNm231 : Go.Proofs.Lays2.n31 Try.prog Try.laysNm231_ren := {
  mixed := by kernel_rfl
  f31 := Try.func73.trans (congrArg some (by kernel_rfl))
  f37 := Try.func86.trans (congrArg some (by kernel_rfl))
  t3 := Try.underlying3
  a3 := Try.isAgg3
  z3 := Try.sizeOf3
  v3 := Try.zeroValue3
  t4 := Try.underlying4
  a4 := Try.isAgg4
  z4 := Try.sizeOf4
  v4 := Try.zeroValue4 }
open Go.RowKit Go.Lib in
theorem Try.cmp_Less_int2 (x y : Int) (w : World) :
    Calls Try.prog 73 #[.int .i64 x, .int .i64 y] w fun e w' => e = .returned (.bool (decide (x < y))) ∧ w' = w := Any.cmp_Less_int2 Try.laysNm231 x y w
open Go.RowKit Go.Lib Go.Sort in
theorem Try.slices_Compact_int_cells (b off n c : Nat) (zs : List Int) (w : World) (hz : n ≤ zs.length) (hbig : n ≤ 9223372036854775807) (hcap : n ≤ c) (hc : ∀ j, j < zs.length → w.cell? ⟨b, off + j, none⟩ = some (.int .i64 (zs.getD j 0))) (hf : ∀ j, j < n → w.frozen? ⟨b, off + j, none⟩ = false) :
    Calls Try.prog 48 #[.slice (some ⟨b, off, none⟩) n c] w fun e w' => e = .returned (.slice (some ⟨b, off, none⟩) (Lib.compact (zs.take n)).length c) ∧ ∃ q, w' = (w.drewN q).setCells b off ((Lib.compact (zs.take n) ++ List.replicate (n - (Lib.compact (zs.take n)).length) 0).map (Value.int .i64)) := Any.slices_Compact_int_cells Try.laysNm220 b off n c zs w hz hbig hcap hc hf
open Go.RowKit Go.Sort in
theorem Try.slices_Sort_int_none (p : Option Addr) (cap : Nat) (w : World) :
    Calls Try.prog 47 #[.slice p 0 cap] w fun e w' => e = .returned (.tuple #[]) ∧ w' = w := Any.slices_Sort_int_none Try.lays189 p cap w
end Go.Proofs
