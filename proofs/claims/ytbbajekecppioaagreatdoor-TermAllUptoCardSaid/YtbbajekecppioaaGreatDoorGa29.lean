/- The pool's Eval walked. -/
import Derived.Test.YtbbajekecppioaaGreatDoorGa28
import Derived.Test.YtbbajekecppioaaGreatDoorGa17
import Derived.Test.YtbbajekecppioaaGreatDoorGa25
set_option linter.unusedSimpArgs false
set_option linter.unusedVariables false
namespace Go.Proofs.YtbbajekecppioaaGreatDoor
open Go.RowKit Go.Mem Go.Wd Go.Tp
namespace TmW
/-- What the walks ask of a pool's nodes. -/
structure Sound (s : TPool) : Prop where
 num : ∀ f n, nth s.l f = some n → n.num < 2 ^ 64
 op : ∀ f n, nth s.l f = some n → n.op.size ≤ 140737488355328
 closed : Closed s.l
theorem takeE_calls {ownP : Nat → Prop} {p : Nat} {s : TPool} {told : List (Int × VVal)} {bp cv ct bv bt : Nat} (hS : Sound s) (ht : ∀ v, toldN told v < 2 ^ 64) (w : World) (own : Nat → Prop) (m m' : List (Int × Nat)) (f : Int) (h : RepE ownP p s told bp cv ct bv bt w own m) (hr : takeE s.l told m f = some m') :
  Calls Tryz.prog 30 (#[.int .i64 f] ++ #[.pointer (some ⟨bp, 0, none⟩), .pointer (some ⟨cv, 0, none⟩), .pointer (some ⟨ct, 0, none⟩)]) w fun e w' => e = .returned (.tuple #[]) ∧ ∃ own', RepE ownP p s told bp cv ct bv bt w' own' m' ∧ PMoves own w own' w' := by
 show Calls Tryz.prog 30 #[.int .i64 f, .pointer (some ⟨bp, 0, none⟩), .pointer (some ⟨cv, 0, none⟩), .pointer (some ⟨ct, 0, none⟩)] w _
 unfold takeE at hr
 cases hn : nth s.l f with
 | none => rw [hn] at hr; cases hr
 | some n =>
 rw [hn] at hr
 simp only at hr
 by_cases ho1 : n.op = sNum
 ·rw [if_pos ho1] at hr
  exact evalNum w own m m' f h hn ho1 (hS.num f n hn) (Option.some.inj hr).symm
 ·rw [if_neg ho1] at hr
  by_cases ho2 : n.op = sVar
  ·rw [if_pos ho2] at hr
   exact evalVar w own m m' f h hn ho2 (ht _) (Option.some.inj hr).symm
  ·rw [if_neg ho2] at hr
   cases hk : n.kids.getLast? with
   | none => rw [hk] at hr; cases hr
   | some k =>
    rw [hk] at hr
    simp only at hr
    cases hnk : nth s.l k with
    | none => rw [hnk] at hr; cases hr
    | some nk =>
     rw [hnk] at hr
     simp only at hr
     by_cases ho3 : n.op = sCast
     ·rw [if_pos ho3] at hr
      split at hr
      ·rename_i hkk
       exact evalCast w own m m' f h hn ho3 hkk hnk (Option.some.inj hr).symm
      ·cases hr
     ·rw [if_neg ho3] at hr
      split at hr
      ·rename_i h3
       have h1 : 1 ≤ n.kids.length := by
        cases hh : n.kids with
        | nil => rw [hh] at hk; cases hk
        | cons a b => simp
       exact evalOp w own m m' f h hn ho1 ho2 ho3 (hS.op f n hn) hk h1 h3 hnk (applyF_lt _ _ _ fun x hx => by obtain ⟨y, _, rfl⟩ := List.mem_map.1 hx; exact valN_lt h.small y) (Option.some.inj hr).symm
      ·cases hr
theorem takerE {ownP : Nat → Prop} {p : Nat} {s : TPool} {told : List (Int × VVal)} {bp cv ct bv bt : Nat} (hS : Sound s) (ht : ∀ v, toldN told v < 2 ^ 64) : Taker (RepE ownP p s told bp cv ct bv bt) p s.l 30 #[.pointer (some ⟨bp, 0, none⟩), .pointer (some ⟨cv, 0, none⟩), .pointer (some ⟨ct, 0, none⟩)] (takeE s.l told) :=
 ⟨fun h hf h1 h2 => h.frm hf h1 ⟨h2 0 (by omega), h2 1 (by omega)⟩, fun h => ⟨ownP, s, h.pool, h.sub, fun _ _ h => h⟩, fun h => h.lt, fun w own m m' f h hr => takeE_calls hS ht w own m m' f h hr, fun args w => call_enter (P := Tryz.prog) (f := 30) Tryz.func30 (by kernel_rfl) rfl args w⟩
/-- What is told, the first one of a variable counts. -/
def toldL : List VVal → List (Int × VVal)
 | [] => []
 | x :: r => mput (toldL r) x.v x
def okVars (told : List (Int × VVal)) (out : List VVal) : Bool := out.all fun x => match mget told x.v with | some y => decide (y.t = x.t) | none => false
theorem VRow.len {w : World} {v : Value} {l : List VVal} (h : VRow w v l) : l.length ≤ maxLen := by
 obtain ⟨_, ⟨_, h2⟩ | ⟨g, cap, cur, _, _, _, hn, hm, _⟩⟩ := h
 ·rw [h2]; exact Nat.zero_le _
 ·omega
theorem toldN_lt : ∀ {l : List VVal}, (∀ x ∈ l, x.num < 2 ^ 64) → ∀ v, toldN (toldL l) v < 2 ^ 64
 | [], _, v => by show (0 : Nat) < _; omega
 | x :: r, h, v => by
  unfold toldN toldV toldL
  rw [mget_mput]
  split
  ·exact h x (by simp)
  ·exact toldN_lt (l := r) (fun y hy => h y (by simp [hy])) v
set_option maxRecDepth 100000 in
set_option maxHeartbeats 4000000 in
theorem Eval_calls {w : World} {own : Nat → Prop} {p : Nat} {s : TPool} (hE : Env w) (h : PoolAt w own p s) (hS : Sound s) (f : Int) (hf : (nth s.l f).isSome) (iv : Value) (il : List VVal) (hV : VRow w iv il) (hVo : ∀ g, iv.ownBlock = some g → ¬ own g) (hnum : ∀ x ∈ il, x.num < 2 ^ 64)
  (k : Nat) (out : List VVal) (hout : varsF s.l k f = some out) (hn : out.length ≤ 12) (hok : okVars (toldL il) out = true) (k2 : Nat) (m' : List (Int × Int)) (mF : List (Int × Nat)) (hev : eachF.eachL (eachF (kidsF s.l) (takeE s.l (toldL il)) k2) ([], []) [f] = some (m', mF)) :
  Calls Tryz.prog 11 #[.pointer (some ⟨p, 0, none⟩), .int .i64 f, iv] w fun e w' => e = .returned (.tuple #[.int .u64 (valN mF f : Nat), .int .i64 0]) ∧ PoolAt w' own p s ∧ PMoves own w own w' := by
 have hmm := @run_makeMap Tryz.prog
 have hmf : ∀ (fn : Fn) (first cap : Array Value) (w : World), (Instr.makeFunc fn first cap).run Tryz.prog w = .ok (.func fn first cap) w := fun _ _ _ _ => rfl
 obtain ⟨nf, hnf⟩ := Option.isSome_iff_exists.1 hf
 have hlen : il.length ≤ 9223372036854775807 := hV.len
 have HH := Lib.hid (has1 (h.alloc (.cells #[.pointer (some ⟨p, 0, none⟩)] 32)) f (w.heap.size + 1) (by simp))
 rw [nth_in hnf] at HH
 have HB0 := Lib.hid (blk_new (w := w) (.cells #[.pointer (some ⟨p, 0, none⟩)] 32))
 have HF0 := Lib.hid (frm_alloc w (.cells #[.pointer (some ⟨p, 0, none⟩)] 32))
 obtain ⟨IA, IC, rfl⟩ : ∃ IA IC, iv = .slice IA il.length IC := by
  rcases hV.shape with ⟨rfl, rfl⟩ | ⟨g, cap, rfl, _⟩
  ·exact ⟨none, 0, rfl⟩
  ·exact ⟨_, _, rfl⟩
 have HP := Lib.hid h
 have HE := Lib.hid hE
 have HV := Lib.hid hV
 have HVo := Lib.hid hVo
 have HS := Lib.hid hS
 have Hout := Lib.hid hout
 have Hok := Lib.hid hok
 have Hev := Lib.hid hev
 have Hnum := Lib.hid hnum
 have Hf := Lib.hid hf
 have Hn := Lib.hid hn
 clear hE h hS hf hV hVo hnum hout hok hev hnf hn
 go_enter Tryz.func11, Tryz.ntmps11
 go_wp2_with fail
 refine HH.out.mono ?_
 rintro e w1 ⟨rfl, hf1⟩
 have HF1 := Lib.hid (frm_then HF0.out hf1)
 have HB1 := Lib.hid (blk_frm HB0.out hf1 id)
 have hlt1 : w.heap.size < w1.heap.size := lt_of_block HB1.out
 clear hf1
 go_wp2
 obtain ⟨w3, hw3⟩ : ∃ w3, w3 = ((w1.alloc (.map #[] 0)).alloc (.cells #[.map (some w1.heap.size)] 68)) := ⟨_, rfl⟩
 rw [← hw3]
 have HM3 := Lib.hid (show MapAt w3 w1.heap.size (Value.int .i64) encV [] by rw [hw3]; exact ⟨#[], 0, blk_alloc (blk_new _) _, rfl, by simp, by simp⟩)
 have HC3 := Lib.hid (show w3.heap[w1.heap.size + 1]? = some (.cells #[.map (some w1.heap.size)] 68) by rw [hw3]; exact blk_new_at _ (by simp))
 have HF3 := Lib.hid (show Frm (fun _ => False) w w3 by rw [hw3]; exact (HF1.out.alloc _).alloc _)
 have HB3 := Lib.hid (show w3.heap[w.heap.size]? = some (.cells #[.pointer (some ⟨p, 0, none⟩)] 32) by rw [hw3]; exact blk_alloc (blk_alloc HB1.out _) _)
 clear hw3
 generalize hbt : w1.heap.size = bt at *
 have Hlt := Lib.hid hlt1
 have HVf := Lib.hid (fun w' (hf : Frm (fun b => b = bt) w3 w') => (HV.out.frm HF3.out fun _ _ => id).frm hf fun g hg e => (by
  have := (World.ownsRow.lt HV.out g hg).2
  omega))
 clear hbt hlt1 hmm
 go_loopw [9] (fun v9 w' => ∃ i : Nat, i ≤ il.length ∧ v9 = .int .i64 ((i : Int) - 1) ∧ Hid (MapAt w' bt (Value.int .i64) encV (toldL (il.drop i))) ∧ Hid (Frm (fun b => b = bt) w3 w')) (fun v9 _ => (intOf v9 + 1).toNat)
 case atStart => exact ⟨il.length, Nat.le_refl _, rfl, Lib.hid (by rw [List.drop_length]; exact HM3.out), Lib.hid (Frm.refl _ _)⟩
 case round =>
  obtain ⟨i, hi, rfl, HM, HF⟩ := hrel
  have hcr := blk_frm HC3.out HF.out (by omega)
  have z8 : wr.cell? ⟨bt + 1, 0, none⟩ = some (.map (some bt)) := blk_cell hcr 0
  have HCR := Lib.hid hcr
  clear hcr
  cases i with
  | succ j =>
   rw [show (((j + 1 : Nat) : Int) - 1) = (j : Int) by omega]
   obtain ⟨x, hx⟩ : ∃ x, il[j]? = some x := ⟨_, List.getElem?_eq_getElem (by omega)⟩
   have hdr : il.drop j = x :: il.drop (j + 1) := by rw [List.drop_eq_getElem_cons (by omega)]; congr 1; rw [List.getElem?_eq_getElem (by omega)] at hx; exact Option.some.inj hx
   have hT : toldL (il.drop j) = mput (toldL (il.drop (j + 1))) x.v x := by rw [hdr]; rfl
   have HT := Lib.hid hT
   rcases (HVf.out wr HF.out).shape with ⟨e, e2⟩ | ⟨g, cap', e, hgl, hcells, _⟩
   ·rw [e2] at hi; simp at hi
   simp only [Value.slice.injEq] at e
   obtain ⟨rfl, _, rfl⟩ := e
   obtain ⟨x0, x1, x2, x3⟩ := hcells j x hx
   have hji : (j : Int) < (il.length : Int) := by omega
   have Hj := Lib.hid (show j ≤ il.length by omega)
   clear hcells hx hdr hT
   go_wp2
   refine Plan.wp_region_plan [0, 0, 0, 6, 14, 30, 0, 0, 192, 448, 1023] [.mk [0, 1, 2, 3, 4, 5, 6, 7, 8, 9] 10 []] [] (by kernel_rfl) (by kernel_rfl) ?_
   simp only [Plan.wayOf, Plan.pickAll, List.getElem?_cons_zero, List.getElem?_cons_succ, List.getD_eq_getElem?_getD, Option.getD_some]
   refine Plan.wpWay_seg ?_
   repeat go_big_quiet_step (fail)
   refine wpQuiet_nil ?_; refine Plan.wpWay_act ?_
   refine wpList_update rfl _ _ _ 68 rfl keyInt Tryz.underlying68 x.v x rfl rfl rfl HM.out ?_
   intro w5 hm5 hg5
   have HM5 := Lib.hid hm5
   have HF5 := Lib.hid (show Frm (fun b => b = bt) w3 w5 from (HF.out.drew).trans ((Frm.of_grown hg5).mono fun b _ e => (by cases e; rfl)) fun _ _ h => h)
   clear hm5 hg5
   go_simp
   go_wp2_with fail
   refine And.intro Plan.again_nil ?_
   refine Plan.wpWay_last ?_
   refine wpQuiet_nil ?_; refine NoPanic.normal ?_
   go_wp2
   go_roundw
   case rel => exact ⟨j, Hj.out, by first | rfl | go_num, Lib.hid (by rw [HT.out]; exact HM5.out), HF5⟩
   case measure => simp [intOf] <;> omega
  | zero =>
   rw [show (((0 : Nat) : Int) - 1) = -1 by omega]
   rw [List.drop_zero] at HM
   have hbr := blk_frm HB3.out HF.out (by have := Hlt.out; omega)
   have y3 : wr.cell? ⟨w.heap.size, 0, none⟩ = some (.pointer (some ⟨p, 0, none⟩)) := blk_cell hbr 0
   have hPr := (HP.out.frm0 HF3.out).frm HF.out fun b hb e => (by have := HP.out.lt b hb; have := Hlt.out; omega)
   have HVA := Lib.hid (Vars_calls (hPr.alloc (.cells #[.int .i64 f] 3)) HS.out.closed f Hf.out (.slice (some ⟨wr.heap.size, 0, none⟩) 1 1) (sees_of_blk (blk_new _) rfl rfl (by decide)) (fun g hg ho => (by
    obtain ⟨o', n', c', e'⟩ := hg
    cases e'
    have := hPr.lt _ ho
    omega)) k out Hout.out Hn.out)
   have HPr := Lib.hid hPr
   have HBr := Lib.hid hbr
   have hszr := HF.out.size
   have hsz3 := HF3.out.size
   have hbtr := HM.out.lt
   clear hPr hbr
   go_wp2_with fail
   refine HVA.out.mono ?_
   rintro e w5 ⟨v, out', rfl, hperm, hV5, hP5, hM5, hge⟩
   obtain ⟨OA, OC, rfl⟩ : ∃ OA OC, v = .slice OA out'.length OC := by
    rcases hV5.shape with ⟨rfl, rfl⟩ | ⟨g, cap, rfl, _⟩
    ·exact ⟨none, 0, rfl⟩
    ·exact ⟨_, _, rfl⟩
   have HV5 := Lib.hid hV5
   have HP5 := Lib.hid hP5
   have HF5 := Lib.hid (show Frm own wr w5 from ((frm_alloc _ _).mono fun _ _ h => h.elim).trans hM5.1 fun _ _ h => h)
   have HK5 := Lib.hid (show IntKept wr w5 from fun b cs hb => hM5.2.2 b cs (kept_frm0 (frm_alloc _ _) b cs hb))
   have hno : ∀ b, w.heap.size ≤ b → ¬ own b := fun b h1 h2 => (by have := HP.out.lt b h2; omega)
   have HM5 := Lib.hid (HM.out.frm HF5.out (hno bt (by have := Hlt.out; omega)))
   have HC5 := Lib.hid (blk_frm HCR.out HF5.out (hno (bt + 1) (by have := Hlt.out; omega)))
   have HB5 := Lib.hid (blk_frm HBr.out HF5.out (hno w.heap.size (by omega)))
   have Hok' := Lib.hid (show okVars (toldL il) out' = true by unfold okVars; rw [List.Perm.all_eq hperm]; exact Hok.out)
   have hlo : out'.length ≤ 12 := by rw [hperm.length_eq]; exact Hn.out
   clear hperm hV5 hP5 hM5 hge hno
   go_wp2
   go_loopw [43] (fun v43 w' => ∃ j : Nat, j ≤ out'.length ∧ v43 = .int .i64 j ∧ Hid (Frm (fun _ => False) w5 w')) (fun v43 _ => out'.length - (intOf v43).toNat)
   case atStart => exact ⟨0, Nat.zero_le _, rfl, Lib.hid (Frm.refl _ _)⟩
   case round =>
    obtain ⟨j, hj, rfl, HFj⟩ := hrel
    have z8' : wr.cell? ⟨bt + 1, 0, none⟩ = some (.map (some bt)) := blk_cell (blk_frm HC5.out HFj.out id) 0
    by_cases hlt : j < out'.length
    ·obtain ⟨x, hx⟩ : ∃ x, out'[j]? = some x := ⟨_, List.getElem?_eq_getElem hlt⟩
     have hxo := (List.all_eq_true.1 Hok'.out) x (List.mem_of_getElem? hx)
     obtain ⟨y, hy, hyt⟩ : ∃ y, mget (toldL il) x.v = some y ∧ y.t = x.t := by
      cases hg : mget (toldL il) x.v with
      | none => rw [hg] at hxo; cases hxo
      | some y => rw [hg] at hxo; exact ⟨y, rfl, by simpa using hxo⟩
     rcases (HV5.out.frm HFj.out fun _ _ => id).shape with ⟨e, e2⟩ | ⟨g, cap', e, hgl, hcells, _⟩
     ·rw [e2] at hlt; simp at hlt
     simp only [Value.slice.injEq] at e
     obtain ⟨rfl, _, rfl⟩ := e
     obtain ⟨x0, x1, x2, x3⟩ := hcells j x hx
     have hlk := fun W (hW : MapAt W bt (Value.int .i64) encV (toldL il)) => lookup_run keyInt Tryz.underlying68 zeroV hW x.v true
     simp only [if_true, mval, hy, Option.map_some, Option.getD_some, Option.isSome_some, encV, hyt] at hlk
     have hlk1 := hlk _ (show MapAt (wr.alloc (.cells #[.int .i64 x.v, .int .i64 x.t.1, .bool x.t.2, .int .u64 x.num] 70)) bt _ _ _ from (HM5.out.frm HFj.out id).frm (frm_alloc _ _) id)
     have hji : (j : Int) < (out'.length : Int) := by omega
     have Hlt2 := Lib.hid (show j + 1 ≤ out'.length from hlt)
     have hmm2 := World.block_lt_of_cell? _ _ z8'
     clear hcells hx hxo hlk hy hyt hlt
     go_wp2
     exact ⟨⟨j + 1, Hlt2.out, by first | rfl | go_num, Lib.hid ((HFj.out.alloc _).alloc _)⟩, by have := Hlt2.out; simp [intOf] <;> omega⟩
    ·have hje : j = out'.length := by omega
     subst hje
     have hltI : ¬ (out'.length : Int) < (out'.length : Int) := by omega
     obtain ⟨w6, hw6⟩ : ∃ w6, w6 = (wr.alloc (.map #[] 0)).alloc (.cells #[.map (some wr.heap.size)] 73) := ⟨_, rfl⟩
     have HFw := Lib.hid (show Frm own w w6 from by
      rw [hw6]
      refine Frm.trans (S := own) (T := own) (b := w5) ?_ (((HFj.out.alloc _).alloc _).mono fun _ _ h => h.elim) fun _ _ h => h
      exact ((HF3.out.mono fun _ _ h => h.elim).trans HF.out fun b hb e => (by have := Hlt.out; omega)).trans HF5.out fun _ _ h => h)
     have HKw := Lib.hid (show IntKept w w6 from fun b cs hb => by
      rw [hw6]
      refine kept_frm0 ((HFj.out.alloc _).alloc _) b cs (HK5.out b cs ?_)
      refine blk_frm (kept_frm0 HF3.out b cs hb) HF.out fun e => ?_
      have := lt_of_block hb
      have := Hlt.out
      omega)
     have hP6 : PoolAt w6 own p s := by rw [hw6]; exact HP5.out.frm0 ((HFj.out.alloc _).alloc _)
     have hsz : w6.heap.size = wr.heap.size + 2 := by rw [hw6]; simp
     have hszj := HFj.out.size
     have hbt5 := HM5.out.lt
     have hct5 := lt_of_block HC5.out
     have hb35 := lt_of_block HB5.out
     have hR : RepE own p s (toldL il) w.heap.size (wr.heap.size + 1) (bt + 1) wr.heap.size bt w6 (fun b => own b ∨ b = w.heap.size ∨ b = wr.heap.size + 1 ∨ b = bt + 1 ∨ b = wr.heap.size ∨ b = bt) [] := by
      have hw2 := HP5.out.lo _ HP5.out.me
      have hwl := HP.out.lt _ HP.out.me
      have hbl := Hlt.out
      refine ⟨hP6, ?_, ?_, ?_, ?_, ?_, ?_, fun k x hx => (by cases hx), fun b hb => .inl hb, ⟨.inr (.inl rfl), .inr (.inr (.inl rfl)), .inr (.inr (.inr (.inl rfl))), .inr (.inr (.inr (.inr (.inl rfl)))), .inr (.inr (.inr (.inr (.inr rfl))))⟩, ⟨fun ho => ?_, ?_⟩, fun b hb => ?_, fun b hb => ?_⟩
      ·rw [hw6]; exact blk_frm HB5.out ((HFj.out.alloc _).alloc _) id
      ·rw [hw6]; exact blk_new_at _ (by simp)
      ·rw [hw6]; exact blk_frm HC5.out ((HFj.out.alloc _).alloc _) id
      ·rw [hw6]; exact ⟨#[], 0, blk_alloc (blk_new _) _, rfl, by simp, by simp⟩
      ·rw [hw6]; exact HM5.out.frm ((HFj.out.alloc _).alloc _) id
      ·exact HE.out.frm HFw.out (fun ho => by have := HP.out.lo _ ho; omega) (fun ho => by have := HP.out.lo _ ho; omega)
      ·have := HP.out.lt _ ho; have := HF5.out.size; omega
      ·omega
      ·rcases hb with hb | rfl | rfl | rfl | rfl | rfl
       ·exact hP6.lt b hb
       all_goals omega
      ·rcases hb with hb | rfl | rfl | rfl | rfl | rfl
       ·exact HP.out.lo b hb
       all_goals omega
     have HEV := Lib.hid (each_calls (takerE HS.out (toldN_lt Hnum.out)) k2 (w6.alloc (.cells #[.int .i64 f] 3)) _ [] (hR.frm0 (frm_alloc _ _)) (.slice (some ⟨w6.heap.size, 0, none⟩) 1 1) [f] (sees_of_blk (blk_new _) rfl rfl (by decide)) (fun g hg ho => (by
      obtain ⟨o', n', c', e'⟩ := hg
      cases e'
      have := hR.lt _ ho
      omega)) (fun x hx => (by simp at hx; subst hx; exact Hf.out)) HS.out.closed m' mF Hev.out)
     clear hR hP6 hj hlt
     have hmm := @run_makeMap Tryz.prog
     have Hsz := Lib.hid hsz
     have hl6 : w6.heap.size = wr.heap.size + 1 + 1 := by omega
     rw [hl6, hw6] at HEV
     have Hw6 := Lib.hid hw6
     have y3' : wr.cell? ⟨w.heap.size, 0, none⟩ = some (.pointer (some ⟨p, 0, none⟩)) := blk_cell (blk_frm HB5.out HFj.out id) 0
     have hy3 := World.block_lt_of_cell? _ _ y3'
     clear hl6 hw6 hsz
     go_wp2_with fail
     refine HEV.out.mono ?_
     rintro e w7 ⟨rfl, own7, hR7, hM7⟩
     have y7 : w7.cell? ⟨wr.heap.size + 1, 0, none⟩ = some (.map (some wr.heap.size)) := blk_cell hR7.hcv 0
     have hlk7 := look_val hR7.mv f
     have HR7 := Lib.hid hR7
     have HM7 := Lib.hid hM7
     clear hR7 hM7
     go_wp2
     go_ret2
     refine ⟨rfl, HR7.out.pool, ?_⟩
     have hM7 := HM7.out
     rw [← Hw6.out] at hM7
     have hsz := Hsz.out
     refine ⟨HFw.out.trans (((frm_alloc w6 _).mono fun _ _ h => h.elim).trans hM7.1 fun _ _ h => h) fun b hb hs => ?_, fun b hb => .inl hb, fun b cs hb => hM7.2.2 b cs (kept_frm0 (frm_alloc _ _) b cs (HKw.out b cs hb))⟩
     have := Hlt.out
     have := HF5.out.size
     rcases hs with hs | rfl | rfl | rfl | rfl | rfl
     ·exact hs
     all_goals omega
end TmW
end Go.Proofs.YtbbajekecppioaaGreatDoor
/- What the pool's calls give is worth what was asked. No walk. -/
namespace Go.Proofs.YtbbajekecppioaaGreatDoor
open Go.RowKit Go.Mem Go.Wd Go.Tp
namespace TmW
theorem simple1_sim {e : Int → Nat} {s : TPool} {D : Int → Nat} (h : Good e s D) {op : ByteArray} {a : Int} (ha : inP s a = true) (ht : (applyF op (typeF s a) [0]).2 = 0) : Sim e s D (simple1F s op a, s) (resultF op (typeF s a)) (applyF op (typeF s a) [D a]).1 := by
  obtain ⟨hr, hm, hb⟩ := typed1 ht
  have hnt : op ∉ tests := by simp only [List.mem_cons, List.not_mem_nil, or_false] at hm; rcases hm with rfl | rfl | rfl <;> simp [tests]
  have hnl : op ≠ sLand ∧ op ≠ sLor := by simp only [List.mem_cons, List.not_mem_nil, or_false] at hm; rcases hm with rfl | rfl | rfl <;> decide
  have hres : ∀ t, resultF op t = t := fun t => result_else hnl hnt
  have hnn := name_not op (by simp only [List.mem_cons, List.not_mem_nil, or_false] at hm; rcases hm with rfl | rfl | rfl <;> simp [opNames])
  rw [hres]
  unfold simple1F
  cases hn : nth s.l a with
  | none => exact sim_no h _ _ _
  | some n =>
    simp only
    split
    · rename_i ho
      have hs := h.shape _ _ hn
      have ht' : typedOk s n.op n.kids = true := by
        cases hs with
        | num ho' => exact absurd (ho.symm.trans ho') hnn.1
        | var ho' => exact absurd (ho.symm.trans ho') hnn.2.1
        | cast k ho' => exact absurd (ho.symm.trans ho') hnn.2.2
        | op ho' => exact ho'
      have hty : n.t = resultF n.op (lastTy s n.kids) := by
        cases hs with
        | num ho' => exact absurd (ho.symm.trans ho') hnn.1
        | var ho' => exact absurd (ho.symm.trans ho') hnn.2.1
        | cast k ho' => exact absurd (ho.symm.trans ho') hnn.2.2
        | op _ ht => exact ht
      rw [ho] at ht' hty
      rcases typedOk_inv ht' with ⟨k, hk, hk2⟩ | ⟨x, y, hk, _, hk2⟩ | ⟨c, x, y, hk, hk2, _⟩
      · have hin := h.kin hn k (by rw [hk]; simp)
        rw [hk] at hty ⊢
        have htk : typeF s a = typeF s k := by rw [type_of hn, hty, hres]; rfl
        refine sim_self h hin htk.symm ?_
        show D k = _
        have hda : D a = (turnF (typeF s k) (op.extract 1 op.size) (D k)).1 := by
          rw [h.den _ _ hn]
          unfold stepE
          rw [ho, if_neg hnn.1, if_neg hnn.2.1, if_neg hnn.2.2, hk]
          show (applyF op (typeF s k) [D k]).1 = _
          rw [← htk, hb]
        rw [hb, hda, htk]
        refine (turn_twice (h.lt hin) ?_).1.symm
        rw [turn_ok _ _ _ 0, ← htk, ← hb]
        exact ht
      · exfalso
        have := typed2 hk2
        simp only [List.mem_cons, List.not_mem_nil, or_false] at hm
        cases this with
        | logic ho => exact ho.elim hnl.1 hnl.2
        | test hx => exact hnt hx
        | word k _ _ _ hg =>
          have := get_names hg
          rcases hm with rfl | rfl | rfl <;> simp at this
      · exfalso
        subst hk2
        simp at hm
    · exact sim_no h _ _ _
theorem choice_sim {e : Int → Nat} {s : TPool} {D : Int → Nat} (h : Good e s D) {c a b : Int} (hc : inP s c = true) (ha : inP s a = true) (hb : inP s b = true) (hct : typeF s c = (1, false)) (ht : typeF s a = typeF s b) : Sim e s D (choiceF s c a b, s) (resultF sIte (typeF s b)) (applyF sIte (typeF s b) [D c, D a, D b]).1 := by
  rw [show resultF sIte (typeF s b) = typeF s b from result_else (by decide) (by simp [tests]), applyF3, if_pos rfl]
  show Sim e s D _ _ (if D c = 1 then D a else D b)
  have hlc := bool_lt (hct ▸ h.lt hc)
  unfold choiceF
  split
  · rename_i he
    have he : a = b := by simpa using he
    subst he
    exact sim_self h ha rfl (by split <;> rfl)
  · split
    · rename_i hk
      rw [const_val h hk]
      split
      · rename_i h1
        have h1 : D c = 1 := by have : ((D c : Nat) : Int) = 1 := by simpa using h1
                                omega
        rw [if_pos h1]
        exact sim_self h ha ht rfl
      · rename_i h1
        rw [if_neg (fun hx => h1 (by rw [hx]; rfl))]
        exact sim_self h hb rfl rfl
    · split
      · rename_i hk
        obtain ⟨k1, k2, k3⟩ := hk
        have ea : D a = 1 := by rw [isNum_val h k2, k1]; exact norm_one right_bool
        have eb : D b = 0 := by rw [isNum_val h k3, norm_zero]
        refine sim_self h hc (by rw [hct, ← ht, k1]) ?_
        rw [ea, eb]
        rcases hlc with h0 | h1
        · rw [h0]; rfl
        · rw [h1]; rfl
      · exact sim_no h _ _ _
theorem simple_sim {e : Int → Nat} {s : TPool} {D : Int → Nat} (h : Good e s D) {op : ByteArray} {l : List Int} (hl : ∀ k ∈ l, inP s k = true) (ht : typedOk s op l = true) : Sim e s D (simpleF s op l) (resultF op (lastTy s l)) (applyF op (lastTy s l) (l.map D)).1 := by
  rcases typedOk_inv ht with ⟨a, rfl, h'⟩ | ⟨a, b, rfl, hab, h'⟩ | ⟨c, a, b, rfl, rfl, hc, hab⟩
  · exact simple1_sim h (hl a (by simp)) h'
  · exact simple2_sim h (hl a (by simp)) (hl b (by simp)) hab (typed2 h')
  · exact choice_sim h (hl c (by simp)) (hl a (by simp)) (hl b (by simp)) hc hab
theorem consts_len_le (s : TPool) : ∀ l : List Int, (constsF s l).length ≤ l.length
  | [] => Nat.le_refl _
  | a :: r => by
    have := consts_len_le s r
    unfold constsF at *
    rw [List.filterMap_cons]
    split <;> simp <;> omega
theorem consts_all {e : Int → Nat} {s : TPool} {D : Int → Nat} (h : Good e s D) : ∀ {l : List Int}, (constsF s l).length = l.length → constsF s l = l.map D
  | [], _ => rfl
  | a :: r, hl => by
    have hle := consts_len_le s r
    have ih := consts_all (l := r) h
    unfold constsF at *
    rw [List.filterMap_cons] at *
    by_cases hc : (constF s a).2 = true
    · rw [if_pos hc] at hl ⊢
      simp only [List.length_cons, List.map_cons] at *
      rw [ih (by omega), const_val h hc]
    · rw [if_neg hc] at hl
      simp only [List.length_cons] at *
      omega
/-- What a call of the pool leaves when it does what was asked. -/
structure Done (e : Int → Nat) (s : TPool) (D : Int → Nat) (r : (Int × Int) × TPool) (t : Ty) (v : Nat) : Prop where
  err : r.1.2 = 0
  came : Came e s D r.2 r.1.1 t v
  len : r.2.l.length ≤ s.l.length + 2
  types : r.2.types = s.types
theorem do_done {e : Int → Nat} {s : TPool} {D : Int → Nat} (h : Good e s D) {op : ByteArray} {l : List Int} (hl : ∀ k ∈ l, inP s k = true) (ht : typedOk s op l = true) : Done e s D (DoF s op l) (resultF op (lastTy s l)) (applyF op (lastTy s l) (l.map D)).1 := by
  obtain ⟨b1, b2, b3⟩ := op_val ht fun k hk => ⟨h.lt (hl k hk), h.right (hl k hk)⟩
  unfold DoF
  rw [if_pos (List.all_eq_true.2 hl), if_pos ht]
  unfold doR
  split
  · rename_i hk
    rw [consts_all h hk]
    obtain ⟨c1, c2, c3⟩ := num_came h b2 (applyF op (lastTy s l) (l.map D)).1
    rw [norm_of_lt b2 b1] at c1
    exact ⟨rfl, c1, by simp only; omega, c3⟩
  · have hS := simple_sim h hl ht
    split
    · rename_i hk
      exact ⟨rfl, hS.came hk, by have := hS.len; simp only; omega, hS.types⟩
    · obtain ⟨D', g1, g2⟩ := hS.good
      have hk' : ∀ k ∈ (opN op (resultF op (lastTy s l)) l).kids, inP (simpleF s op l).2 k = true := fun k hk => g2.inp (hl k hk)
      obtain ⟨m1, m2, m3⟩ := name_not _ b3
      have hsh : Shape s (opN op (resultF op (lastTy s l)) l) := .op ht rfl rfl rfl
      obtain ⟨⟨⟨D2, n1, n2, n3⟩, n4, n5⟩, n6, n7, n8⟩ := node_came g1 (opN op (resultF op (lastTy s l)) l) hk' (g2.shape hl hsh) (fun hc => absurd hc m2)
      rw [g2.step e (n := opN op (resultF op (lastTy s l)) l) hl hsh] at n3
      refine ⟨rfl, ⟨⟨D2, n1, g2.trans n2, n3.trans ?_⟩, n4, n5⟩, by have := hS.len; simp only; omega, n8.trans hS.types⟩
      unfold stepE
      rw [if_neg (show (opN op (resultF op (lastTy s l)) l).op ≠ sNum from m1), if_neg (show (opN op (resultF op (lastTy s l)) l).op ≠ sVar from m2), if_neg (show (opN op (resultF op (lastTy s l)) l).op ≠ sCast from m3)]
      rfl
theorem num_done {e : Int → Nat} {s : TPool} {D : Int → Nat} (h : Good e s D) {t : Ty} (hr : rightF t = true) (v : Nat) : Done e s D (NumF s t v) t (normF t v) := by
  obtain ⟨c1, c2, c3⟩ := num_came h hr v
  unfold NumF
  rw [if_pos hr]
  exact ⟨rfl, c1, by simp only; omega, c3⟩
theorem castF_same {t : Ty} (hr : rightF t = true) {v : Nat} (hv : v < 2 ^ wid t) : castF t t v = v := by
  unfold castF
  rw [hr, Bool.and_self, if_pos rfl]
  split
  · rename_i hw
    have hw' : wid t = 1 := by unfold wid; omega
    rw [hw'] at hv
    rw [norm_of_lt hr (by rw [hw']; exact hv)]
    omega
  · exact norm_ofI_sv hr hv
theorem cast_done {e : Int → Nat} {s : TPool} {D : Int → Nat} (h : Good e s D) {t : Ty} (hr : rightF t = true) {f : Int} (hf : inP s f = true) : Done e s D (CastF s t f) t (castF (typeF s f) t (D f)) := by
  unfold CastF
  rw [if_pos hf, if_pos hr]
  split
  · rename_i ht
    rw [ht, castF_same hr (ht ▸ h.lt hf)]
    refine ⟨rfl, ?_, by simp, rfl⟩
    have := self_came h hf
    rw [ht] at this
    exact this
  · split
    · rename_i hk
      rw [const_val h hk]
      obtain ⟨c1, c2, c3⟩ := num_came h hr (castF (typeF s f) t (D f))
      rw [norm_of_lt hr (castF_ltw hr _)] at c1
      exact ⟨rfl, c1, by simp only; omega, c3⟩
    · obtain ⟨n1, n2, n3, n4⟩ := node_came h (castN t f) (fun k hk => by obtain rfl := List.mem_singleton.1 hk; exact hf) (.cast f rfl rfl rfl rfl hr) (fun hc => absurd hc (show sCast ≠ sVar by decide))
      exact ⟨rfl, n1, by simp only; omega, n4⟩
theorem var_done {e : Int → Nat} {s : TPool} {D : Int → Nat} (h : Good e s D) {t : Ty} (hr : rightF t = true) {v : Int} (hv : varOk s t v = true) : (VarF s t v).1.2 = 0 ∧ Came e s D (VarF s t v).2 (VarF s t v).1.1 t (normF t (e v)) ∧ (VarF s t v).2.l.length ≤ s.l.length + 1 ∧ (VarF s t v).2.types = mput s.types v t := by
  have hG : Grow s D (typed s t v) D := ⟨fun _ _ h => h, fun _ _ => rfl⟩
  have h' : Good e (typed s t v) D := ⟨fun f n hn => hG.shape (h.kin hn) (h.shape _ _ hn), fun f n hn => h.kids f n hn, fun f n hn => (h.den f n hn).trans (hG.step e (h.kin hn) (h.shape _ _ hn)).symm, h.find, h.has, fun f n hn ho => by
    show mget (mput s.types v t) n.v = some n.t
    have hh := h.vart f n hn ho
    rw [mget_mput]
    split
    · rename_i hc
      have hc : v = n.v := by simpa using hc
      unfold varOk at hv
      rw [hc, hh] at hv
      simp only [Bool.and_eq_true, decide_eq_true_eq] at hv
      rw [hv.2]
    · exact hh⟩
  have h0 : 0 ≤ v := by unfold varOk at hv; simp only [Bool.and_eq_true, decide_eq_true_eq] at hv; exact hv.1
  obtain ⟨⟨⟨D2, n1, n2, n3⟩, n4, n5⟩, n6, n7, n8⟩ := node_came h' (varN t v) (fun k hk => by cases hk) (.var rfl rfl h0 rfl hr) (fun _ => by show mget (mput s.types v t) v = some t; rw [mget_mput, if_pos (by simp)])
  unfold VarF
  rw [if_pos hr, if_pos hv]
  exact ⟨rfl, ⟨⟨D2, n1, hG.trans n2, n3⟩, n4, n5⟩, n6, n8⟩
theorem good_empty (e : Int → Nat) : Good e empty (fun _ => 0) := by
  have hn : ∀ f n, nth empty.l f ≠ some n := fun f n h => by have := nth_lt h; simp [empty] at this; omega
  exact ⟨fun f n h => absurd h (hn f n), fun f n h => absurd h (hn f n), fun f n h => absurd h (hn f n), fun key f h => by simp [empty, mget] at h, fun f n h => absurd h (hn f n), fun f n h => absurd h (hn f n)⟩
theorem Good.calm {e : Int → Nat} {s : TPool} {D : Int → Nat} (h : Good e s D) : Calm s := by
  refine ⟨fun f => ?_, fun f n hn hop => ?_⟩
  · by_cases hk : (constF s f).2 = true
    · rw [const_val h hk]
      have hf : inP s f = true := by
        unfold constF at hk
        cases hf : nth s.l f with
        | none => rw [hf] at hk; cases hk
        | some n => exact nth_in hf
      exact pow64 (h.right hf) (h.lt hf)
    · unfold constF at *
      cases hf : nth s.l f with
      | none => simp
      | some n =>
        rw [hf] at hk
        simp only at hk ⊢
        split
        · rename_i hx; rw [if_pos hx] at hk; exact absurd rfl hk
        · simp
  · have hs := h.shape _ _ hn
    cases hs with
    | num ho => rw [ho] at hop; exact absurd hop.1 (by decide)
    | var ho => rw [ho] at hop; exact absurd hop.1 (by decide)
    | cast k ho => rw [ho] at hop; exact absurd hop.1 (by decide)
    | op ho => exact typed_ne ho
theorem Good.sound {e : Int → Nat} {s : TPool} {D : Int → Nat} (h : Good e s D) : Sound s := by
  refine ⟨fun f n hn => ?_, fun f n hn => ?_, fun f n hn g hg => ?_⟩
  · have hs := h.shape _ _ hn
    cases hs with
    | num ho hv hk hr hn => exact pow64 hr hn
    | var ho hn => rw [hn]; exact Nat.two_pow_pos _
    | cast k ho hn => rw [hn]; exact Nat.two_pow_pos _
    | op ho ht hn => rw [hn]; exact Nat.two_pow_pos _
  · have hs := h.shape _ _ hn
    cases hs with
    | num ho => rw [ho]; decide
    | var ho => rw [ho]; decide
    | cast k ho => rw [ho]; decide
    | op ho =>
      have := name_size _ (op_val (D := D) ho fun k hk => ⟨h.lt (h.kin hn k hk), h.right (h.kin hn k hk)⟩).2.2
      omega
  · obtain ⟨m, hm⟩ := in_nth (h.kin hn g hg)
    rw [hm]; rfl
end TmW
end Go.Proofs.YtbbajekecppioaaGreatDoor
