/- The pool's Put walked. -/
import Derived.Test.YtbbajekecppioaaGreatDoorGa41
set_option linter.unusedSimpArgs false
set_option linter.unusedVariables false
namespace Go.Proofs.YtbbajekecppioaaGreatDoor
open Go.RowKit Go.Mem Go.Wd Go.Tp
namespace TmW
/-- What is put in place of variables, if each is there once and of its type. -/
def putTo (s : TPool) : List (Int × Int) → List (Int × Int) → Option (List (Int × Int))
 | [], acc => some acc
 | (v, g) :: r, acc => if (mget acc v).isSome = false ∧ (∀ t, mget s.types v = some t → t = typeF s g) then putTo s r (mput acc v g) else none
theorem takerP {e : Int → Nat} {p : Nat} {N : List TNode} {to : List (Int × Int)} {bp cn ct bn bt : Nat} (hN : ∀ f n, nth N f = some n → n.op.size ≤ 140737488355328) : Taker (RepP e p N to bp cn ct bn bt) p N 45 #[.pointer (some ⟨bp, 0, none⟩), .pointer (some ⟨cn, 0, none⟩), .pointer (some ⟨ct, 0, none⟩)] (takeP N to) :=
 ⟨fun h hf h1 h2 => h.frm hf h1 h2, fun h => let ⟨ownP, h1, h2, _⟩ := h.pool; ⟨ownP, _, h1, h2, h.pre⟩, fun h => h.lt, fun w own m m' f h hr => takeP_calls hN w own m m' f h hr, fun args w => call_enter (P := Tryz.prog) (f := 45) Tryz.func45 (by kernel_rfl) rfl args w⟩
theorem look_type {w : World} {b : Nat} {m : List (Int × Ty)} (h : MapAt w b iI encTy m) (v : Int) :
  (Instr.lookup 55 (.map (some b)) (.int .i64 v) true).run Tryz.prog w = .ok (.tuple #[.agg #[.int .i64 ((mget m v).getD (0, false)).1, .bool ((mget m v).getD (0, false)).2], .bool (mget m v).isSome]) w := by
 have hlk := lookup_run keyInt Tryz.underlying55 zeroTy h v true
 simp only [if_true, mval] at hlk
 cases hg : mget m v with
 | none => rw [hg] at hlk; exact hlk
 | some t => rw [hg] at hlk; exact hlk
theorem pool_types {w : World} {own : Nat → Prop} {p : Nat} {s : TPool} (h : PoolAt w own p s) : ∃ bt, w.cell? ⟨p, 2, none⟩ = some (.map (some bt)) ∧ MapAt w bt iI encTy s.types := by
 obtain ⟨lv, bf, bt, kvs, H⟩ := h
 exact ⟨bt, H.cells.2.2.1, H.types⟩
set_option maxRecDepth 100000 in
set_option maxHeartbeats 4000000 in
theorem Put_calls {w : World} {own : Nat → Prop} {p : Nat} {s : TPool} {e : Int → Nat} {D : Int → Nat} (hE : Env w) (h : PoolAt w own p s) (hG : Good e s D) (f : Int) (hf : inP s f = true) (vv bv : Value) (vars bys : List Int) (hV : Sees w iI vv vars) (hB : Sees w iI bv bys) (hlen : vars.length = bys.length) (hin : ∀ g ∈ bys, inP s g = true)
  (to : List (Int × Int)) (hto : putTo s (vars.zip bys) [] = some to) (k2 : Nat) (m' now : List (Int × Int)) (s' : TPool) (hev : eachF.eachL (eachF (kidsF s.l) (takeP s.l to) k2) ([], ([], s)) [f] = some (m', (now, s'))) :
  Calls Tryz.prog 23 #[.pointer (some ⟨p, 0, none⟩), .int .i64 f, vv, bv] w fun ed w' => ed = .returned (.tuple #[.int .i64 (nowV now f), .int .i64 0]) ∧ ∃ own', PoolAt w' own' p s' ∧ PMoves own w own' w' ∧ ∃ D', Good e s' D' := by
 have hmm := @run_makeMap Tryz.prog
 have hmf : ∀ (fn : Fn) (first cap : Array Value) (w : World), (Instr.makeFunc fn first cap).run Tryz.prog w = .ok (.func fn first cap) w := fun _ _ _ _ => rfl
 obtain ⟨nf, hnf⟩ := in_nth hf
 have hS := hG.sound
 have hvl : vars.length ≤ 9223372036854775807 := hV.len
 have HH := Lib.hid (has1 (h.alloc (.cells #[.pointer (some ⟨p, 0, none⟩)] 32)) f (w.heap.size + 1) (by simp))
 rw [hf] at HH
 have HHB := Lib.hid (fun w1 (hf1 : Frm (fun _ => False) w w1) => has_calls (h.frm0 hf1) bv bys (hB.frm hf1 fun _ _ _ => id))
 rw [show bys.all (inP s) = true from List.all_eq_true.2 hin] at HHB
 have HB0 := Lib.hid (blk_new (w := w) (.cells #[.pointer (some ⟨p, 0, none⟩)] 32))
 have HF0 := Lib.hid (frm_alloc w (.cells #[.pointer (some ⟨p, 0, none⟩)] 32))
 have HP := Lib.hid h
 have HE := Lib.hid hE
 have HS := Lib.hid hS
 have HG := Lib.hid hG
 have HVs := Lib.hid hV
 have HBs := Lib.hid hB
 have Hin := Lib.hid hin
 have Hto := Lib.hid hto
 have Hev := Lib.hid hev
 have Hf := Lib.hid hf
 have Hlen := Lib.hid hlen
 obtain ⟨VA, VC, rfl, _⟩ := sees_slice hV
 obtain ⟨BA, BC, rfl, _⟩ := sees_slice hB
 have hle : ((vars.length : Int) == (bys.length : Int)) = true := by simp [hlen]
 have hle2 : (bys.length : Int) = (vars.length : Int) := by simp [hlen]
 clear h hE hS hG hV hB hin hto hev hf hlen hnf hle
 rw [← Hlen.out]
 rw [← Hlen.out] at HHB HBs
 clear hle2
 go_enter Tryz.func23, Tryz.ntmps23
 go_wp2_with fail
 refine HH.out.mono ?_
 rintro ed w1 ⟨rfl, hf1⟩
 have HF1 := Lib.hid (frm_then HF0.out hf1)
 have HB1 := Lib.hid (blk_frm HB0.out hf1 id)
 have y1 : w1.cell? ⟨w.heap.size, 0, none⟩ = some (.pointer (some ⟨p, 0, none⟩)) := blk_cell HB1.out 0
 clear hf1
 go_wp2_with fail
 refine (HHB.out _ HF1.out).mono ?_
 rintro ed w2 ⟨rfl, hf2⟩
 have HF2 := Lib.hid (frm_then HF1.out hf2)
 have HB2 := Lib.hid (blk_frm HB1.out hf2 id)
 clear hf2 y1
 go_wp2
 obtain ⟨w3, hw3⟩ : ∃ w3, w3 = (w2.alloc (.map #[] 0)).alloc (.cells #[.map (some w2.heap.size)] 92) := ⟨_, rfl⟩
 rw [← hw3]
 have HM3 := Lib.hid (show IMap w3 w2.heap.size [] by rw [hw3]; exact ⟨#[], 0, blk_alloc (blk_new _) _, rfl, by simp, by simp⟩)
 have HC3 := Lib.hid (show w3.heap[w2.heap.size + 1]? = some (.cells #[.map (some w2.heap.size)] 92) by rw [hw3]; exact blk_new_at _ (by simp))
 have HF3 := Lib.hid (show Frm (fun _ => False) w w3 by rw [hw3]; exact (HF2.out.alloc _).alloc _)
 have HB3 := Lib.hid (show w3.heap[w.heap.size]? = some (.cells #[.pointer (some ⟨p, 0, none⟩)] 32) by rw [hw3]; exact blk_alloc (blk_alloc HB2.out _) _)
 have hlt2 := Lib.hid (show w.heap.size < w2.heap.size from lt_of_block HB2.out)
 clear hw3
 generalize hbt : w2.heap.size = bt at *
 clear hbt
 go_loopw [37] (fun v37 w' => ∃ (i : Nat) (acc : List (Int × Int)), i ≤ vars.length ∧ v37 = .int .i64 i ∧ Hid (putTo s ((vars.zip bys).drop i) acc = some to) ∧ Hid (IMap w' bt acc) ∧ Hid (Frm (fun b => b = bt) w3 w')) (fun v37 _ => vars.length - (intOf v37).toNat)
 case atStart => exact ⟨0, [], Nat.zero_le _, rfl, Hto, HM3, Lib.hid (Frm.refl _ _)⟩
 case round =>
  obtain ⟨i, acc, hi, rfl, HTo, HM, HF⟩ := hrel
  have HFw := Lib.hid (show Frm (fun b => b = bt) w wr from (HF3.out.mono fun _ _ h => h.elim).trans HF.out fun _ _ h => h)
  have hct := Lib.hid (blk_frm HC3.out HF.out (by omega))
  have hbr := Lib.hid (blk_frm HB3.out HF.out (by have := hlt2.out; omega))
  have z10 : wr.cell? ⟨bt + 1, 0, none⟩ = some (.map (some bt)) := blk_cell hct.out 0
  have z4 : wr.cell? ⟨w.heap.size, 0, none⟩ = some (.pointer (some ⟨p, 0, none⟩)) := blk_cell hbr.out 0
  have hPr := HP.out.frm HFw.out fun b hb e => by have := HP.out.lt b hb; have := hlt2.out; omega
  have HPr := Lib.hid hPr
  have hsl : ∀ {v : Value} {l : List Int}, Sees w iI v l → Sees wr iI v l := fun h => h.frm HFw.out fun g _ hg e => by have := hlt2.out; omega
  have HVr := Lib.hid (hsl HVs.out)
  have HBr := Lib.hid (hsl HBs.out)
  clear hsl
  by_cases hlt : i < vars.length
  ·obtain ⟨v, hv⟩ : ∃ v, vars[i]? = some v := ⟨_, List.getElem?_eq_getElem hlt⟩
   obtain ⟨g, hg⟩ : ∃ g, bys[i]? = some g := ⟨_, List.getElem?_eq_getElem (by have := Hlen.out; omega)⟩
   have hz : (vars.zip bys)[i]? = some (v, g) := by rw [List.getElem?_zip_eq_some]; exact ⟨hv, hg⟩
   have hdr : (vars.zip bys).drop i = (v, g) :: (vars.zip bys).drop (i + 1) := by
    have hzl := (List.getElem?_eq_some_iff.1 hz).1
    rw [List.drop_eq_getElem_cons hzl]; congr 1
    rw [List.getElem?_eq_getElem hzl] at hz; exact Option.some.inj hz
   have hT := HTo.out
   rw [hdr, putTo] at hT
   split at hT
   case isFalse => cases hT
   rename_i hcond
   have HT := Lib.hid hT
   obtain ⟨hc1, hc2⟩ := hcond
   obtain ⟨VA', VC', eV, hcV⟩ := sees_slice HVr.out
   cases eV
   obtain ⟨g1, o1, rfl, cv⟩ := hcV i v hv
   obtain ⟨BA', BC', eB, hcB⟩ := sees_slice HBr.out
   have hbl : bys.length = vars.length := Hlen.out.symm
   rw [hbl] at eB
   cases eB
   obtain ⟨g2, o2, rfl, cb⟩ := hcB i g hg
   obtain ⟨ng, hng⟩ := in_nth (Hin.out g (List.mem_of_getElem? hg))
   obtain ⟨l0, l1⟩ := nth_lt hng
   obtain ⟨gp, cp, kv, p0, _, _, _, _, e1, e2, _, _, _⟩ := hPr.node hng
   obtain ⟨bty, p2, hty⟩ := pool_types hPr
   have hlkt := look_type hty v
   have hlki := look_is HM.out v
   rw [hc1] at hlki
   have htg : typeF s g = ng.t := type_of hng
   have hltI : (i : Int) < (vars.length : Int) := by omega
   have Hlt := Lib.hid (show i + 1 ≤ vars.length from hlt)
   have w0 := World.block_lt_of_cell? _ _ z4
   have w1' := World.block_lt_of_cell? _ _ z10
   have w2' := World.block_lt_of_cell? _ _ cb
   have w3' := World.block_lt_of_cell? _ _ p0
   have w4' := World.block_lt_of_cell? _ _ e1
   clear hv hg hz hdr hT hcV hcB hbl hng hty hPr hlt
   cases ht : mget s.types v with
   | none =>
    rw [ht] at hlkt
    clear hc2 ht htg hc1
    go_wp2
    go_quiet (fail)
    go_wp2
    obtain ⟨w8, hw8⟩ : ∃ w8, w8 = (wr.alloc (.cells #[.int .i64 0, .bool false] 23)).drewN nq := ⟨_, rfl⟩
    rw [← hw8]
    have hf8 : Frm (fun _ => False) wr w8 := by rw [hw8]; exact (frm_alloc _ _).drewN _
    have z10 := frm_cell hf8 z10
    have cb := frm_cell hf8 cb
    have HM8 := Lib.hid (HM.out.frm hf8 id)
    have HF8 := Lib.hid (HF.out.trans hf8 fun _ _ h => h.elim)
    clear hw8 hf8
    refine Plan.wp_region_plan [0, 0, 0, 0, 12, 28, 63] [.mk [0, 1, 2, 3, 4, 5] 6 []] [] (by kernel_rfl) (by kernel_rfl) ?_
    simp only [Plan.wayOf, Plan.pickAll, List.getElem?_cons_zero, List.getElem?_cons_succ, List.getD_eq_getElem?_getD, Option.getD_some]
    refine Plan.wpWay_seg ?_
    repeat go_big_quiet_step (fail)
    refine wpQuiet_nil ?_; refine Plan.wpWay_act ?_
    refine wpList_update rfl _ _ _ 92 rfl keyInt Tryz.underlying92 v g rfl rfl rfl HM8.out ?_
    intro w5 hm5 hg5
    have HM5 := Lib.hid hm5
    have HF5 := Lib.hid (show Frm (fun b => b = bt) w3 w5 from (HF8.out.drew).trans ((Frm.of_grown hg5).mono fun b _ e => (by cases e; rfl)) fun _ _ h => h)
    clear hm5 hg5
    go_simp
    go_wp2_with fail
    refine And.intro Plan.again_nil ?_
    refine Plan.wpWay_last ?_
    refine wpQuiet_nil ?_; refine NoPanic.normal ?_
    go_wp2
    go_roundw
    case rel => exact ⟨i + 1, mput acc v g, Hlt.out, by first | rfl | go_num, HT, HM5, HF5⟩
    case measure => have := Hlt.out; simp [intOf]; omega
   | some t =>
    have := hc2 t ht
    rw [htg] at this
    subst this
    rw [ht] at hlkt
    clear hc2 ht hc1
    go_wp2
    go_quiet (fail)
    go_wp2
    obtain ⟨w8, hw8⟩ : ∃ w8, w8 = (wr.alloc (.cells #[.int .i64 ng.t.1, .bool ng.t.2] 23)).drewN nq := ⟨_, rfl⟩
    rw [← hw8]
    have hf8 : Frm (fun _ => False) wr w8 := by rw [hw8]; exact (frm_alloc _ _).drewN _
    have z10 := frm_cell hf8 z10
    have cb := frm_cell hf8 cb
    have HM8 := Lib.hid (HM.out.frm hf8 id)
    have HF8 := Lib.hid (HF.out.trans hf8 fun _ _ h => h.elim)
    clear hw8 hf8
    refine Plan.wp_region_plan [0, 0, 0, 0, 12, 28, 63] [.mk [0, 1, 2, 3, 4, 5] 6 []] [] (by kernel_rfl) (by kernel_rfl) ?_
    simp only [Plan.wayOf, Plan.pickAll, List.getElem?_cons_zero, List.getElem?_cons_succ, List.getD_eq_getElem?_getD, Option.getD_some]
    refine Plan.wpWay_seg ?_
    repeat go_big_quiet_step (fail)
    refine wpQuiet_nil ?_; refine Plan.wpWay_act ?_
    refine wpList_update rfl _ _ _ 92 rfl keyInt Tryz.underlying92 v g rfl rfl rfl HM8.out ?_
    intro w5 hm5 hg5
    have HM5 := Lib.hid hm5
    have HF5 := Lib.hid (show Frm (fun b => b = bt) w3 w5 from (HF8.out.drew).trans ((Frm.of_grown hg5).mono fun b _ e => (by cases e; rfl)) fun _ _ h => h)
    clear hm5 hg5
    go_simp
    go_wp2_with fail
    refine And.intro Plan.again_nil ?_
    refine Plan.wpWay_last ?_
    refine wpQuiet_nil ?_; refine NoPanic.normal ?_
    go_wp2
    go_roundw
    case rel => exact ⟨i + 1, mput acc v g, Hlt.out, by first | rfl | go_num, HT, HM5, HF5⟩
    case measure => have := Hlt.out; simp [intOf]; omega
  ·obtain rfl : i = vars.length := by omega
   have hT := HTo.out
   rw [List.drop_of_length_le (by rw [List.length_zip]; omega), putTo] at hT
   obtain rfl := Option.some.inj hT
   have hltI : ¬ (vars.length : Int) < (vars.length : Int) := by omega
   have hbe : bt < wr.heap.size := HM.out.lt
   obtain ⟨w6, hw6⟩ : ∃ w6, w6 = (wr.alloc (.map #[] 0)).alloc (.cells #[.map (some wr.heap.size)] 92) := ⟨_, rfl⟩
   have hfr6 : Frm (fun _ => False) wr w6 := by rw [hw6]; exact (frm_alloc _ _).alloc _
   have HFW := Lib.hid (show Frm own w w6 from by
    refine ⟨(hfr6.os.trans HFw.out.os), hfr6.tape.trans HFw.out.tape, hfr6.output.trans HFw.out.output, Nat.le_trans HFw.out.size hfr6.size, fun b hb ho => (hfr6.block b (Nat.lt_of_lt_of_le hb HFw.out.size) id).trans (HFw.out.block b hb fun e => ?_)⟩
    have := hlt2.out
    omega)
   have HKW := Lib.hid (show IntKept w w6 from fun b cs hb => blk_frm (blk_frm hb HFw.out fun e => by have := lt_of_block hb; have := hlt2.out; omega) hfr6 id)
   have hP6 : PoolAt w6 own p s := HPr.out.frm0 hfr6
   have hsz : w6.heap.size = wr.heap.size + 2 := by rw [hw6]; simp
   have hszr := HFw.out.size
   have hl2 := hlt2.out
   have hR : RepP e p s.l acc w.heap.size (wr.heap.size + 1) (bt + 1) wr.heap.size bt w6 (fun b => own b ∨ b = w.heap.size ∨ b = wr.heap.size + 1 ∨ b = bt + 1 ∨ b = wr.heap.size ∨ b = bt) ([], s) := by
    have hol : ∀ b, own b → b < w.heap.size := HP.out.lt
    have hlo0 := HP.out.lo _ HP.out.me
    have hltp := HP.out.lt _ HP.out.me
    have hbt1 := lt_of_block hct.out
    refine ⟨⟨own, hP6, fun b hb => .inl hb, fun h => by have := hol _ h; omega, fun h => by have := hol _ h; omega, fun h => by have := hol _ h; omega, fun h => by have := hol _ h; omega, fun h => by have := hol _ h; omega⟩, fun _ _ h => h, ⟨D, HG.out⟩, ?_, ?_, ?_, ?_, ?_, ?_, ⟨.inr (.inl rfl), .inr (.inr (.inl rfl)), .inr (.inr (.inr (.inl rfl))), .inr (.inr (.inr (.inr (.inl rfl)))), .inr (.inr (.inr (.inr (.inr rfl))))⟩, by omega, fun b hb => ?_, fun b hb => ?_⟩
    ·rw [hw6]; exact blk_alloc (blk_alloc hbr.out _) _
    ·rw [hw6]; exact blk_new_at _ (by simp)
    ·rw [hw6]; exact blk_alloc (blk_alloc hct.out _) _
    ·rw [hw6]; exact ⟨#[], 0, blk_alloc (blk_new _) _, rfl, by simp, by simp⟩
    ·exact HM.out.frm hfr6 id
    ·exact (HE.out.frm HFw.out (by omega) (by omega)).frm0 hfr6
    ·rcases hb with hb | rfl | rfl | rfl | rfl | rfl
     ·exact hP6.lt b hb
     all_goals omega
    ·rcases hb with hb | rfl | rfl | rfl | rfl | rfl
     ·exact HP.out.lo b hb
     all_goals omega
   have HEV := Lib.hid (each_calls (takerP HS.out.op) k2 (w6.alloc (.cells #[.int .i64 f] 3)) _ _ (hR.frm0 (frm_alloc _ _)) (.slice (some ⟨w6.heap.size, 0, none⟩) 1 1) [f] (sees_of_blk (blk_new _) rfl rfl (by decide)) (fun g hg ho => (by
    obtain ⟨o', n', c', e'⟩ := hg
    cases e'
    have := hR.lt _ ho
    omega)) (fun x hx => (by simp at hx; subst hx; obtain ⟨n0, h0⟩ := in_nth Hf.out; rw [h0]; rfl)) HS.out.closed m' (now, s') Hev.out)
   have hl6 : w6.heap.size = wr.heap.size + 1 + 1 := by omega
   rw [hl6, hw6] at HEV
   have Hw6 := Lib.hid hw6
   have HOB := Lib.hid (show ∀ b, (own b ∨ b = w.heap.size ∨ b = wr.heap.size + 1 ∨ b = bt + 1 ∨ b = wr.heap.size ∨ b = bt) → own b ∨ w.heap.size ≤ b from fun b hb => by
    rcases hb with hb | hb | hb | hb | hb | hb
    ·exact .inl hb
    all_goals exact .inr (by omega))
   have HSZ := Lib.hid (show w.heap.size ≤ w6.heap.size by omega)
   clear hl6 hw6 hsz hR hP6 hfr6 hT
   have w0 := World.block_lt_of_cell? _ _ z4
   go_wp2_with fail
   refine HEV.out.mono ?_
   rintro ed w7 ⟨rfl, own7, hR7, hM7⟩
   have y7 : w7.cell? ⟨wr.heap.size + 1, 0, none⟩ = some (.map (some wr.heap.size)) := blk_cell hR7.hcn 0
   have hlk7 := look_int hR7.mn f
   have HR7 := Lib.hid hR7
   have HM7 := Lib.hid hM7
   clear hR7 hM7
   go_wp2
   go_ret2
   obtain ⟨ownP', hP7, hs7, _⟩ := HR7.out.pool
   obtain ⟨D', hD'⟩ := HR7.out.good
   have hM7 := HM7.out
   rw [← Hw6.out] at hM7
   refine ⟨rfl, ownP', hP7, ⟨HFW.out.trans (((frm_alloc w6 _).mono fun _ _ h => h.elim).trans hM7.1 fun _ _ h => h) fun b hb hs => ?_, fun b hb => ?_, fun b cs hb => hM7.2.2 b cs (kept_frm0 (frm_alloc _ _) b cs (HKW.out b cs hb))⟩, D', hD'⟩
   ·rcases HOB.out b hs with h | h
    ·exact h
    ·omega
   ·rcases hM7.2.1 b (hs7 b hb) with h | h
    ·exact HOB.out b h
    ·have := HSZ.out
     have hs : w6.heap.size ≤ (w6.alloc (.cells #[.int .i64 f] 3)).heap.size := by simp
     exact .inr (by omega)
end TmW
end Go.Proofs.YtbbajekecppioaaGreatDoor
/- The chapter's example: what the calls come to there. No walk. -/
namespace Go.Proofs.YtbbajekecppioaaGreatDoor
open Go.RowKit Go.Mem Go.Wd Go.Tp
namespace LawT
open TmW
def u8T : Ty := (8, false)
def xs1 : TPool := (NumF empty u8T 200).2
def xs2 : TPool := (NumF xs1 u8T 100).2
def xs3 : TPool := (DoF xs2 sAdd [0, 1]).2
def xs4 : TPool := (VarF xs3 u8T 0).2
def xs5 : TPool := (NumF xs4 u8T 5).2
def xs6 : TPool := (DoF xs5 sLt [3, 4]).2
def xs7 : TPool := (NumF xs6 u8T 3).2
theorem xr1 : (NumF empty u8T 200).1 = (0, 0) := by kernel_rfl
theorem xr2 : (NumF xs1 u8T 100).1 = (1, 0) := by kernel_rfl
theorem xr3 : (DoF xs2 sAdd [0, 1]).1 = (2, 0) := by kernel_rfl
theorem xr4 : (VarF xs3 u8T 0).1 = (3, 0) := by kernel_rfl
theorem xr5 : (NumF xs4 u8T 5).1 = (4, 0) := by kernel_rfl
theorem xr6 : (DoF xs5 sLt [3, 4]).1 = (6, 0) := by kernel_rfl
theorem xr7 : (NumF xs6 u8T 3).1 = (7, 0) := by kernel_rfl
theorem xto : putTo xs7 ([0].zip [7]) [] = some [(0, 7)] := by kernel_rfl
def xput : Option (List (Int × Int) × (List (Int × Int) × TPool)) := eachF.eachL (eachF (kidsF xs7.l) (takeP xs7.l [(0, 7)]) 20) ([], ([], xs7)) [6]
theorem xput_is : (xput.map fun x => (nowV x.2.1 6, x.2.2.l.length)) = some (8, 9) := by kernel_rfl
def xs8 : TPool := match xput with | some x => x.2.2 | none => empty
theorem xn2 : nth xs8.l 2 = some ⟨sNum, (8, false), 44, 0, []⟩ := by kernel_rfl
theorem xn3 : nth xs8.l 3 = some ⟨sVar, (8, false), 0, 0, []⟩ := by kernel_rfl
theorem xn4 : nth xs8.l 4 = some ⟨sNum, (8, false), 5, 0, []⟩ := by kernel_rfl
theorem xn6 : nth xs8.l 6 = some ⟨sLt, (1, false), 0, 0, [3, 4]⟩ := by kernel_rfl
theorem xn8 : nth xs8.l 8 = some ⟨sNum, (1, false), 1, 0, []⟩ := by kernel_rfl
def xsh (k : Int) : ByteArray := if k = 3 then showVar ⟨sVar, (8, false), 0, 0, []⟩ else showNum ⟨sNum, (8, false), 5, 0, []⟩
theorem xw2 : showNum ⟨sNum, (8, false), 44, 0, []⟩ = ⟨#[52, 52, 58, 117, 56]⟩ := by kernel_rfl
theorem xw5 : showOp xsh ⟨sLt, (1, false), 0, 0, [3, 4]⟩ = ⟨#[40, 60, 32, 118, 48, 58, 117, 56, 32, 53, 58, 117, 56, 41]⟩ := by kernel_rfl
theorem xw7 : showNum ⟨sNum, (1, false), 1, 0, []⟩ = ⟨#[49, 58, 98, 111, 111, 108]⟩ := by kernel_rfl
end LawT
end Go.Proofs.YtbbajekecppioaaGreatDoor
/- The law's awake walked. -/
namespace Go.Proofs.YtbbajekecppioaaGreatDoor
open Go.RowKit Go.Mem Go.Wd Go.Tp
namespace LawT
open TmW (frm_alloc frm_then frm_cellD frm_cell eqS PoolAt TPost PMoves Env NumF VarF CastF DoF Num_calls Var_calls PDo_calls Put_calls Type_calls New_calls num_done var_done do_grow good_empty moves_pre sNum sVar showNum showVar showOp show_num show_var show_op nowV)
def e0 : Int → Nat := fun _ => 0
theorem xg1 : ∃ D, TmW.Good e0 xs1 D := let ⟨D, h, _⟩ := (num_done (good_empty e0) (t := u8T) (by kernel_rfl) 200).came.out; ⟨D, h⟩
theorem xg2 : ∃ D, TmW.Good e0 xs2 D := let ⟨_, h⟩ := xg1; let ⟨D, h, _⟩ := (num_done h (t := u8T) (by kernel_rfl) 100).came.out; ⟨D, h⟩
theorem xg3 : ∃ D, TmW.Good e0 xs3 D := let ⟨_, h⟩ := xg2; let ⟨D, h, _⟩ := do_grow h sAdd [0, 1]; ⟨D, h⟩
theorem xg4 : ∃ D, TmW.Good e0 xs4 D := let ⟨_, h⟩ := xg3; let ⟨D, h, _⟩ := (var_done h (t := u8T) (by kernel_rfl) (v := 0) (by kernel_rfl)).2.1.out; ⟨D, h⟩
theorem xg5 : ∃ D, TmW.Good e0 xs5 D := let ⟨_, h⟩ := xg4; let ⟨D, h, _⟩ := (num_done h (t := u8T) (by kernel_rfl) 5).came.out; ⟨D, h⟩
theorem xg6 : ∃ D, TmW.Good e0 xs6 D := let ⟨_, h⟩ := xg5; let ⟨D, h, _⟩ := do_grow h sLt [3, 4]; ⟨D, h⟩
theorem xg7 : ∃ D, TmW.Good e0 xs7 D := let ⟨_, h⟩ := xg6; let ⟨D, h, _⟩ := (num_done h (t := u8T) (by kernel_rfl) 3).came.out; ⟨D, h⟩
/-- A pool of the call's own. -/
structure Aw (w wk : World) (own : Nat → Prop) (p : Nat) (s : TPool) : Prop where
  pool : PoolAt wk own p s
  low : ∀ b, own b → w.heap.size ≤ b
  frm : Frm (fun _ => False) w wk
  env : Env wk
theorem Aw.frm0 {w wk w2 : World} {own : Nat → Prop} {p : Nat} {s : TPool} (h : Aw w wk own p s) (hf : Frm (fun _ => False) wk w2) : Aw w w2 own p s := ⟨h.pool.frm0 hf, h.low, frm_then h.frm hf, h.env.frm0 hf⟩
theorem Aw.step {w wk w2 : World} {own own2 : Nat → Prop} {p : Nat} {s s2 : TPool} (h : Aw w wk own p s) (hP : PoolAt w2 own2 p s2) (hM : PMoves own wk own2 w2) : Aw w w2 own2 p s2 :=
  ⟨hP, fun b hb => (hM.2.1 b hb).elim (h.low b) fun hge => Nat.le_trans h.frm.size hge, h.frm.trans hM.1 fun x hx ho => by have := h.low x ho; omega, TmW.Env.moves h.env hM h.pool.lo⟩
theorem Aw.num {w wk : World} {own : Nat → Prop} {p : Nat} {s s2 : TPool} {f : Int} (h : Aw w wk own p s) (t : Ty) (v : Nat) (hv : v < 2 ^ 64) (hr : s.l.length < 4294967296) (he : (NumF s t v).1 = (f, 0)) (hs : (NumF s t v).2 = s2) :
    Calls Tryz.prog 19 #[.pointer (some ⟨p, 0, none⟩), .agg #[.int .i64 t.1, .bool t.2], .int .u64 v] wk fun e w' => e = .returned (.tuple #[.int .i64 f, .int .i64 0]) ∧ ∃ own', Aw w w' own' p s2 := by
  refine (Num_calls h.env h.pool t v hv hr).mono ?_
  rintro e w' ⟨rfl, own', h1, h2⟩
  rw [he]
  rw [hs] at h1
  exact ⟨rfl, own', h.step h1 h2⟩
theorem Aw.var {w wk : World} {own : Nat → Prop} {p : Nat} {s s2 : TPool} {f : Int} (h : Aw w wk own p s) (t : Ty) (v : Int) (hv : TmW.is64 v) (hr : s.l.length < 4294967296) (he : (VarF s t v).1 = (f, 0)) (hs : (VarF s t v).2 = s2) :
    Calls Tryz.prog 22 #[.pointer (some ⟨p, 0, none⟩), .agg #[.int .i64 t.1, .bool t.2], .int .i64 v] wk fun e w' => e = .returned (.tuple #[.int .i64 f, .int .i64 0]) ∧ ∃ own', Aw w w' own' p s2 := by
  refine (Var_calls h.env h.pool t v hv hr).mono ?_
  rintro e w' ⟨rfl, own', h1, h2⟩
  rw [he]
  rw [hs] at h1
  exact ⟨rfl, own', h.step h1 h2⟩
theorem Aw.two {w wk : World} {own : Nat → Prop} {p : Nat} {s s2 : TPool} {f : Int} (h : Aw w wk own p s) (hg : ∃ D, TmW.Good e0 s D) (op : ByteArray) (hop : op.size ≤ 140737488355328) (a b : Int) (hr : s.l.length + 2 < 4294967296) (he : (DoF s op [a, b]).1 = (f, 0)) (hs : (DoF s op [a, b]).2 = s2) :
    Calls Tryz.prog 21 #[.pointer (some ⟨p, 0, none⟩), .string op, .slice (some ⟨wk.heap.size, 0, none⟩) 2 2] (wk.alloc (.cells #[.int .i64 a, .int .i64 b] 3)) fun e w' => e = .returned (.tuple #[.int .i64 f, .int .i64 0]) ∧ ∃ own', Aw w w' own' p s2 := by
  obtain ⟨D, hg⟩ := hg
  have h' := h.frm0 (frm_alloc wk (.cells #[.int .i64 a, .int .i64 b] 3))
  refine (PDo_calls h'.env h'.pool hg.calm op hop (.slice (some ⟨wk.heap.size, 0, none⟩) 2 2) [a, b] (sees_of_blk (blk_new _) rfl rfl (by decide)) (fun g hgg ho => ?_) hr).mono ?_
  · obtain ⟨o, n, c, e⟩ := hgg
    cases e
    have := h.pool.lt _ ho
    omega
  · rintro e w' ⟨rfl, own', h1, h2⟩
    rw [he]
    rw [hs] at h1
    exact ⟨rfl, own', h'.step h1 h2⟩
theorem Aw.putX {w wk : World} {own : Nat → Prop} {p : Nat} (h : Aw w wk own p xs7) :
    Calls Tryz.prog 23 #[.pointer (some ⟨p, 0, none⟩), .int .i64 6, .slice (some ⟨wk.heap.size, 0, none⟩) 1 1, .slice (some ⟨wk.heap.size + 1, 0, none⟩) 1 1] ((wk.alloc (.cells #[.int .i64 0] 3)).alloc (.cells #[.int .i64 7] 3)) fun e w' => e = .returned (.tuple #[.int .i64 8, .int .i64 0]) ∧ ∃ own', Aw w w' own' p xs8 := by
  obtain ⟨D, hg⟩ := xg7
  have h' := h.frm0 ((frm_alloc wk (.cells #[.int .i64 0] 3)).alloc (.cells #[.int .i64 7] 3))
  obtain ⟨m', now, s', hx, hn, hs⟩ : ∃ m' now s', xput = some (m', (now, s')) ∧ nowV now 6 = 8 ∧ s' = xs8 := by
    have h1 := xput_is
    obtain ⟨⟨m', now, s'⟩, hx, h2⟩ := Option.map_eq_some_iff.1 h1
    refine ⟨m', now, s', hx, (Prod.mk.inj h2).1, ?_⟩
    unfold xs8
    rw [hx]
  have hxe : ((wk.alloc (.cells #[.int .i64 0] 3)).alloc (.cells #[.int .i64 7] 3)).heap[wk.heap.size]? = some (.cells #[.int .i64 0] 3) := blk_alloc (blk_new _) _
  have hxf : ((wk.alloc (.cells #[.int .i64 0] 3)).alloc (.cells #[.int .i64 7] 3)).heap[wk.heap.size + 1]? = some (.cells #[.int .i64 7] 3) := blk_new_at _ (by simp)
  refine (Put_calls h'.env h'.pool hg 6 (by kernel_rfl) _ _ [0] [7] (sees_of_blk hxe rfl rfl (by decide)) (sees_of_blk hxf rfl rfl (by decide)) rfl (fun g hg => by simp at hg; subst hg; kernel_rfl) [(0, 7)] xto 20 m' now s' hx).mono ?_
  rintro e w' ⟨rfl, own', h1, h2, _⟩
  rw [hn]
  rw [hs] at h1
  exact ⟨rfl, own', h'.step h1 h2⟩
theorem Aw.show2 {w wk : World} {own : Nat → Prop} {p : Nat} (h : Aw w wk own p xs8) : Calls Tryz.prog 24 #[.pointer (some ⟨p, 0, none⟩), .int .i64 2] wk (TmW.SPost wk ⟨#[52, 52, 58, 117, 56]⟩) := by
  rw [← xw2]
  exact show_num h.env h.pool xn2 rfl (by decide)
theorem Aw.show8 {w wk : World} {own : Nat → Prop} {p : Nat} (h : Aw w wk own p xs8) : Calls Tryz.prog 24 #[.pointer (some ⟨p, 0, none⟩), .int .i64 8] wk (TmW.SPost wk ⟨#[49, 58, 98, 111, 111, 108]⟩) := by
  rw [← xw7]
  exact show_num h.env h.pool xn8 rfl (by decide)
theorem Aw.show6 {w wk : World} {own : Nat → Prop} {p : Nat} (h : Aw w wk own p xs8) : Calls Tryz.prog 24 #[.pointer (some ⟨p, 0, none⟩), .int .i64 6] wk (TmW.SPost wk ⟨#[40, 60, 32, 118, 48, 58, 117, 56, 32, 53, 58, 117, 56, 41]⟩) := by
  rw [← xw5]
  refine show_op h.env h.pool xn6 (by decide) (by decide) (by decide) (by decide) (by decide) xsh (fun k hk => ?_) fun k hk w1 hf => ?_
  · simp only [List.mem_cons, List.not_mem_nil, or_false] at hk
    rcases hk with rfl | rfl <;> decide +kernel
  · simp only [List.mem_cons, List.not_mem_nil, or_false] at hk
    rcases hk with rfl | rfl
    · exact show_var (h.env.frm0 hf) (h.pool.frm0 hf) xn3 rfl ⟨by decide, by decide⟩
    · exact show_num (h.env.frm0 hf) (h.pool.frm0 hf) xn4 rfl (by decide)
set_option maxRecDepth 100000 in
set_option maxHeartbeats 4000000 in
theorem awake_calls (w : World) (hE : Env w) : Calls Tryz.prog 7 #[] w fun e w' => e = .returned (.bool true) ∧ Frm (fun _ => False) w w' := by
  have HN := Lib.hid (New_calls w hE)
  have HE := Lib.hid hE
  have kl2 := Lib.hid (show xs2.l.length + 2 < 4294967296 by decide +kernel)
  clear hE
  go_enter Tryz.func7, Tryz.ntmps7
  go_wp2_with fail
  refine HN.out.mono ?_
  rintro e w1 ⟨own0, p, rfl, hP, hlo, hf⟩
  have H0 := Lib.hid (show Aw w w1 own0 p Go.Tp.empty from ⟨hP, hlo, hf, HE.out.frm0 hf⟩)
  clear hP hlo hf HN HE
  go_wp2_with fail
  (refine (u8_calls _).mono ?_; rintro e wu ⟨rfl, hfu⟩)
  have H0 := Lib.hid (H0.out.frm0 hfu)
  clear hfu
  go_wp2_with fail
  refine (H0.out.num u8T 200 (by decide) (by decide +kernel) xr1 rfl).mono ?_
  rintro e w2 ⟨rfl, own1, hA⟩
  have H1 := Lib.hid hA
  clear hA H0
  go_wp2_with fail
  (refine (u8_calls _).mono ?_; rintro e wu ⟨rfl, hfu⟩)
  have H1 := Lib.hid (H1.out.frm0 hfu)
  clear hfu
  go_wp2_with fail
  refine (H1.out.num u8T 100 (by decide) (by decide +kernel) xr2 rfl).mono ?_
  rintro e w3 ⟨rfl, own2, hA⟩
  have H2 := Lib.hid hA
  clear hA H1
  go_wp2_with fail
  refine (H2.out.two xg2 sAdd (by decide) 0 1 kl2.out xr3 rfl).mono ?_
  rintro e w4 ⟨rfl, own3, hA⟩
  have H3 := Lib.hid hA
  clear hA H2
  go_wp2_with fail
  (refine (u8_calls _).mono ?_; rintro e wu ⟨rfl, hfu⟩)
  have H3 := Lib.hid (H3.out.frm0 hfu)
  clear hfu
  go_wp2_with fail
  refine (H3.out.var u8T 0 ⟨by decide, by decide⟩ (by decide +kernel) xr4 rfl).mono ?_
  rintro e w5 ⟨rfl, own4, hA⟩
  have H4 := Lib.hid hA
  clear hA H3
  go_wp2_with fail
  (refine (u8_calls _).mono ?_; rintro e wu ⟨rfl, hfu⟩)
  have H4 := Lib.hid (H4.out.frm0 hfu)
  clear hfu
  go_wp2_with fail
  refine (H4.out.num u8T 5 (by decide) (by decide +kernel) xr5 rfl).mono ?_
  rintro e w6 ⟨rfl, own5, hA⟩
  have H5 := Lib.hid hA
  clear hA H4
  go_wp2_with fail
  refine (H5.out.two xg5 sLt (by decide) 3 4 (by decide +kernel) xr6 rfl).mono ?_
  rintro e w7 ⟨rfl, own6, hA⟩
  have H6 := Lib.hid hA
  clear hA H5
  go_wp2_with fail
  (refine (u8_calls _).mono ?_; rintro e wu ⟨rfl, hfu⟩)
  have H6 := Lib.hid (H6.out.frm0 hfu)
  clear hfu
  go_wp2_with fail
  refine (H6.out.num u8T 3 (by decide) (by decide +kernel) xr7 rfl).mono ?_
  rintro e w8 ⟨rfl, own7, hA⟩
  have H7 := Lib.hid hA
  clear hA H6
  go_wp2_with fail
  refine (H7.out.putX).mono ?_
  rintro e w9 ⟨rfl, own8, hA⟩
  have H8 := Lib.hid hA
  clear hA H7
  go_wp2_with fail
  refine (H8.out.show2).mono ?_
  rintro e w10 ⟨rfl, hf⟩
  have H8 := Lib.hid (H8.out.frm0 hf)
  clear hf
  go_wp2_with fail
  refine (H8.out.show6).mono ?_
  rintro e w11 ⟨rfl, hf⟩
  have H8 := Lib.hid (H8.out.frm0 hf)
  clear hf
  go_wp2_with fail
  refine (Type_calls H8.out.pool 6).mono ?_
  rintro e w12 ⟨rfl, hf⟩
  have H8 := Lib.hid (H8.out.frm0 hf)
  clear hf
  rw [show TmW.typeF xs8 6 = (1, false) by kernel_rfl]
  go_wp2_with fail
  refine (H8.out.show8).mono ?_
  rintro e w13 ⟨rfl, hf⟩
  have H8 := Lib.hid (H8.out.frm0 hf)
  clear hf
  go_wp2
  go_ret
  exact ⟨rfl, H8.out.frm⟩
end LawT
end Go.Proofs.YtbbajekecppioaaGreatDoor
/- What the laws ask of Eval: values of variables by their numbers. -/
namespace Go.Proofs.YtbbajekecppioaaGreatDoor
open Go.RowKit Go.Mem Go.Wd Go.Tp
namespace LawT
open TmW (frm_alloc frm_then VRow VVal toldL toldN toldV okVars TypesOk PoolAt PMoves Env vtype varsF eval_run vars_run)
/-- What a variable is told to be. -/
def envOf (vs : List Ty) (is : List Nat) : Int → Nat := toldN (toldL (valuesF vs is))
theorem told_mid (l : List VVal) (r : List VVal) (x : VVal) (h : ∀ y ∈ l, y.v ≠ x.v) : mget (toldL (l ++ x :: r)) x.v = some x := by
  induction l with
  | nil => simp only [List.nil_append, toldL]; rw [mget_mput]; simp
  | cons y l ih =>
    simp only [List.cons_append, toldL]
    rw [mget_mput, if_neg (h y (by simp))]
    exact ih fun z hz => h z (by simp [hz])
theorem told_get {vs : List Ty} {is : List Nat} {k : Nat} {u : Ty} (hu : vs[k]? = some u) : mget (toldL (valuesF vs is)) (k : Int) = some ⟨k, u, is.getD k 0⟩ := by
  have hk := (List.getElem?_eq_some_iff.1 hu).1
  have hv : (valuesF vs is)[k]? = some ⟨k, u, is.getD k 0⟩ := by
    unfold valuesF
    rw [List.getElem?_map, List.getElem?_range hk]
    simp [List.getD_eq_getElem?_getD, hu]
  have hkl : k < (valuesF vs is).length := (List.getElem?_eq_some_iff.1 hv).1
  have hs : valuesF vs is = (valuesF vs is).take k ++ ⟨k, u, is.getD k 0⟩ :: (valuesF vs is).drop (k + 1) := by
    conv => lhs; rw [← List.take_append_drop k (valuesF vs is), List.drop_eq_getElem_cons hkl]
    rw [List.getElem?_eq_getElem hkl] at hv
    rw [Option.some.inj hv]
  rw [hs]
  refine told_mid _ _ ⟨k, u, is.getD k 0⟩ fun y hy => ?_
  obtain ⟨i, hi, he⟩ := List.mem_iff_getElem.1 hy
  simp only [List.length_take] at hi
  rw [List.getElem_take] at he
  have h1 : (valuesF vs is)[i]? = some y := by rw [List.getElem?_eq_getElem (by omega), he]
  unfold valuesF at h1
  rw [List.getElem?_map, List.getElem?_range (by omega)] at h1
  have h2 := Option.some.inj h1
  rw [← h2]
  simp only
  omega
theorem env_get {vs : List Ty} {is : List Nat} : ∀ v u, vtype vs v = some u → envOf vs is v = is.getD v.toNat 0 := fun v u h => by
  obtain ⟨h0, hu⟩ := TmW.vtype_get h
  obtain ⟨k, rfl⟩ : ∃ k : Nat, v = k := ⟨v.toNat, by omega⟩
  simp only [Int.toNat_natCast] at hu ⊢
  unfold envOf toldN toldV
  rw [told_get hu]
  rfl
theorem values_ok {vs : List Ty} (is : List Nat) {out : List VVal} (h : ∀ x ∈ out, 0 ≤ x.v ∧ vs[x.v.toNat]? = some x.t) : okVars (toldL (valuesF vs is)) out = true := by
  unfold okVars
  rw [List.all_eq_true]
  intro x hx
  obtain ⟨h0, hu⟩ := h x hx
  obtain ⟨k, hk⟩ : ∃ k : Nat, x.v = k := ⟨x.v.toNat, by omega⟩
  rw [hk] at hu ⊢
  simp only [Int.toNat_natCast] at hu
  rw [told_get hu]
  simp
theorem values_num {vs : List Ty} {is : List Nat} (h : ∀ z ∈ is, z < 2 ^ 64) : ∀ x ∈ valuesF vs is, x.num < 2 ^ 64 := by
  intro x hx
  unfold valuesF at hx
  obtain ⟨i, _, rfl⟩ := List.mem_map.1 hx
  simp only
  rw [List.getD_eq_getElem?_getD]
  cases hz : is[i]? with
  | none => simp
  | some z => exact h z (List.mem_of_getElem? hz)
/-- Eval of a term, where variables are what they are told to be. -/
theorem told_eval {w : World} {own : Nat → Prop} {p : Nat} {s : TPool} {vs : List Ty} {is : List Nat} {D : Int → Nat} (hE : Env w) (h : PoolAt w own p s) (hG : TmW.Good (envOf vs is) s D) (hT : TypesOk vs s) (hn : vs.length ≤ 12) (h64 : ∀ z ∈ is, z < 2 ^ 64) {f : Int} (hf : TmW.inP s f = true) (vr : Value) (hV : VRow w vr (valuesF vs is)) (hVo : ∀ g, vr.ownBlock = some g → ¬ own g) :
    Calls Tryz.prog 11 #[.pointer (some ⟨p, 0, none⟩), .int .i64 f, vr] w fun e w' => e = .returned (.tuple #[.int .u64 (D f : Nat), .int .i64 0]) ∧ PoolAt w' own p s ∧ PMoves own w own w' := by
  obtain ⟨k, out, ho, hl, hx⟩ := vars_run hG hT hn hf
  obtain ⟨k2, m', mF, hev, hval⟩ := eval_run (told := toldL (valuesF vs is)) hG hf
  rw [← hval]
  obtain ⟨nf, hnf⟩ := TmW.in_nth hf
  exact TmW.Eval_calls hE h hG.sound f (by rw [hnf]; rfl) vr (valuesF vs is) hV hVo (values_num h64) k out ho hl (values_ok is hx) k2 m' mF hev
end LawT
end Go.Proofs.YtbbajekecppioaaGreatDoor
