/- What Eval does with each part, walked. -/
import Derived.Test.YtbbajekecppioaaGreatDoorGa27
import Derived.Test.YtbbajekecppioaaGreatDoorGa17
set_option linter.unusedSimpArgs false
set_option linter.unusedVariables false
namespace Go.Proofs.YtbbajekecppioaaGreatDoor
open Go.RowKit Go.Mem Go.Wd Go.Tp
namespace TmW
def encV (x : VVal) : Value := .agg #[.int .i64 x.v, .int .i64 x.t.1, .bool x.t.2, .int .u64 x.num]
def toldV (told : List (Int × VVal)) (v : Int) : VVal := (mget told v).getD ⟨0, (0, false), 0⟩
def toldN (told : List (Int × VVal)) (v : Int) : Nat := (toldV told v).num
def valN (m : List (Int × Nat)) (k : Int) : Nat := (mget m k).getD 0
theorem mval_u64 (m : List (Int × Nat)) (k : Int) : mval (.int .u64 0) u64 m k = .int .u64 (valN m k : Nat) := by
 unfold mval valN; cases mget m k <;> rfl
def valsN (m : List (Int × Nat)) (l : List Int) : List Nat := l.map (valN m)
/-- What Eval does with a part. -/
def takeE (l : List TNode) (told : List (Int × VVal)) (m : List (Int × Nat)) (f : Int) : Option (List (Int × Nat)) :=
 match nth l f with
 | none => none
 | some n =>
  if n.op = sNum then some (mput m f n.num)
  else if n.op = sVar then some (mput m f (normF n.t (toldN told n.v)))
  else match n.kids.getLast? with
  | none => none
  | some k =>
   match nth l k with
   | none => none
   | some nk =>
    if n.op = sCast then (if n.kids = [k] then some (mput m f (castF nk.t n.t (valN m k))) else none)
    else if n.kids.length ≤ 3 then some (mput m f (applyF n.op nk.t (valsN m n.kids)).1) else none
structure RepE (ownP : Nat → Prop) (p : Nat) (s : TPool) (told : List (Int × VVal)) (bp cv ct bv bt : Nat) (w : World) (own : Nat → Prop) (m : List (Int × Nat)) : Prop where
 pool : PoolAt w ownP p s
 hbp : w.heap[bp]? = some (.cells #[.pointer (some ⟨p, 0, none⟩)] 32)
 hcv : w.heap[cv]? = some (.cells #[.map (some bv)] 73)
 hct : w.heap[ct]? = some (.cells #[.map (some bt)] 68)
 mv : MapAt w bv (Value.int .i64) u64 m
 mt : MapAt w bt (Value.int .i64) encV told
 env : Env w
 small : ∀ k x, mget m k = some x → x < 2 ^ 64
 sub : ∀ b, ownP b → own b
 ob : own bp ∧ own cv ∧ own ct ∧ own bv ∧ own bt
 nb : ¬ ownP bv ∧ bv ≠ bt
 lt : ∀ b, own b → b < w.heap.size
 lo : ∀ b, own b → 2 ≤ b
theorem RepE.frm {ownP : Nat → Prop} {p : Nat} {s : TPool} {told : List (Int × VVal)} {bp cv ct bv bt : Nat} {S : Nat → Prop} {w w' : World} {own : Nat → Prop} {m : List (Int × Nat)} (h : RepE ownP p s told bp cv ct bv bt w own m) (hf : Frm S w w') (hS : ∀ b, own b → ¬ S b) (h01 : ¬ S 0 ∧ ¬ S 1) : RepE ownP p s told bp cv ct bv bt w' own m :=
 ⟨h.pool.frm hf fun b hb => hS b (h.sub b hb), blk_frm h.hbp hf (hS _ h.ob.1), blk_frm h.hcv hf (hS _ h.ob.2.1), blk_frm h.hct hf (hS _ h.ob.2.2.1), h.mv.frm hf (hS _ h.ob.2.2.2.1), h.mt.frm hf (hS _ h.ob.2.2.2.2), h.env.frm hf h01.1 h01.2, h.small, h.sub, h.ob, h.nb, fun b hb => Nat.lt_of_lt_of_le (h.lt b hb) hf.size, h.lo⟩
theorem RepE.frm0 {ownP : Nat → Prop} {p : Nat} {s : TPool} {told : List (Int × VVal)} {bp cv ct bv bt : Nat} {w w' : World} {own : Nat → Prop} {m : List (Int × Nat)} (h : RepE ownP p s told bp cv ct bv bt w own m) (hf : Frm (fun _ => False) w w') : RepE ownP p s told bp cv ct bv bt w' own m := h.frm hf (fun _ _ => id) ⟨id, id⟩
/-- Behind a value that was put into the map. -/
theorem RepE.put {ownP : Nat → Prop} {p : Nat} {s : TPool} {told : List (Int × VVal)} {bp cv ct bv bt : Nat} {w w' : World} {own : Nat → Prop} {m : List (Int × Nat)} (h : RepE ownP p s told bp cv ct bv bt w own m) (f : Int) (x : Nat) (hx : x < 2 ^ 64) (hm : MapAt w' bv (Value.int .i64) u64 (mput m f x)) (hg : w.grownBy w' (some bv)) :
  RepE ownP p s told bp cv ct bv bt w' own (mput m f x) ∧ PMoves own w own w' := by
 have hF : Frm (fun b => b = bv) w w' := (Frm.of_grown hg).mono fun b _ e => (by cases e; rfl)
 have hmap : ∀ cs t z, w.heap[bv]? ≠ some (.cells cs t z) := fun cs t z e => by
  obtain ⟨es, c, h1, _⟩ := h.mv
  rw [e] at h1; cases h1
 have hlo := h.lo _ h.ob.2.2.2.1
 refine ⟨⟨h.pool.frm hF fun b hb e => h.nb.1 (e ▸ hb), blk_frm h.hbp hF (fun e => hmap _ _ _ (e ▸ h.hbp)), blk_frm h.hcv hF (fun e => hmap _ _ _ (e ▸ h.hcv)), blk_frm h.hct hF (fun e => hmap _ _ _ (e ▸ h.hct)), hm, h.mt.frm hF (fun e => h.nb.2 e.symm), h.env.frm hF (by omega) (by omega), fun k y hy => ?_, h.sub, h.ob, h.nb, fun b hb => Nat.lt_of_lt_of_le (h.lt b hb) hF.size, h.lo⟩, hF.mono fun b _ e => e ▸ h.ob.2.2.2.1, fun b hb => .inl hb, fun b cs hb => blk_frm hb hF fun e => hmap _ _ _ (e ▸ hb)⟩
 rw [mget_mput] at hy
 split at hy
 ·cases hy; exact hx
 ·exact h.small k y hy
set_option maxRecDepth 100000 in
set_option maxHeartbeats 2000000 in
theorem evalNum {ownP : Nat → Prop} {p : Nat} {s : TPool} {told : List (Int × VVal)} {bp cv ct bv bt : Nat} (w : World) (own : Nat → Prop) (m m' : List (Int × Nat)) (f : Int) (h : RepE ownP p s told bp cv ct bv bt w own m) {n : TNode} (hn : nth s.l f = some n) (ho : n.op = sNum) (hnum : n.num < 2 ^ 64) (hr : m' = mput m f n.num) : Calls Tryz.prog 30 #[.int .i64 f, .pointer (some ⟨bp, 0, none⟩), .pointer (some ⟨cv, 0, none⟩), .pointer (some ⟨ct, 0, none⟩)] w fun e w' => e = .returned (.tuple #[]) ∧ ∃ own', RepE ownP p s told bp cv ct bv bt w' own' m' ∧ PMoves own w own' w' := by
 obtain ⟨l0, l1⟩ := nth_lt hn
 obtain ⟨gn, cn, kv, p0, _, hkv, _, e0, e1, e2, e3, e4, e5⟩ := h.pool.node hn
 obtain ⟨KA, KC, rfl, _⟩ := sees_slice hkv.sees
 have x1 : w.cell? ⟨bp, 0, none⟩ = some (.pointer (some ⟨p, 0, none⟩)) := blk_cell h.hbp 0
 have x2 : w.cell? ⟨cv, 0, none⟩ = some (.map (some bv)) := blk_cell h.hcv 0
 have x3 : w.cell? ⟨ct, 0, none⟩ = some (.map (some bt)) := blk_cell h.hct 0
 have m1 := World.block_lt_of_cell? _ _ x1
 have m2 := World.block_lt_of_cell? _ _ x2
 have m3 := World.block_lt_of_cell? _ _ x3
 have m4 := World.block_lt_of_cell? _ _ p0
 have m5 := World.block_lt_of_cell? _ _ e0
 have HH := Lib.hid h
 have HN := Lib.hid hn
 have HKV := Lib.hid hkv
 have HF1 := Lib.hid (frm_alloc w (.cells #[.string n.op, .int .i64 n.t.1, .bool n.t.2, .int .u64 n.num, .int .i64 n.v, .slice KA n.kids.length KC] 76))
 have HH1 := Lib.hid (HH.out.frm0 HF1.out)
 have hmv := HH1.out.mv
 clear h hn hkv
 have d : (n.op.toList == [110, 117, 109]) = true := by rw [eqS]; exact decide_eq_true ho
 subst hr
 have Hnum := Lib.hid hnum
 clear ho hnum
 go_enter Tryz.func30, Tryz.ntmps30
 go_wp2_with (first | (at_mapUpdate; refine wpList_update rfl _ _ _ 73 rfl keyInt Tryz.underlying73 f n.num rfl rfl rfl hmv ?_; intro w5 hm5 hg5; obtain ⟨hR5, hM5⟩ := HH1.out.put f n.num Hnum.out hm5 hg5; have HR5 := Lib.hid hR5; have HM5 := Lib.hid hM5; clear hR5 hM5 hm5 hg5))
 go_end0
 exact ⟨rfl, own, HR5.out, moves_pre HF1.out HM5.out⟩
theorem zeroV (w : World) : (zeroValue 70).run Tryz.prog w = .ok (.agg #[.int .i64 0, .int .i64 0, .bool false, .int .u64 0]) w := by kernel_rfl
theorem zeroU (w : World) : (zeroValue 24).run Tryz.prog w = .ok (.int .u64 0) w := by kernel_rfl
theorem field2 (a b d : Int) (c : Bool) (w : World) : (Instr.field 70 (.agg #[.int .i64 a, .int .i64 b, .bool c, .int .u64 d]) 2).run Tryz.prog w = .ok (.int .u64 d) w := by kernel_rfl
theorem look_told {told : List (Int × VVal)} {bt : Nat} {w : World} (h : MapAt w bt (Value.int .i64) encV told) (v : Int) :
  (Instr.lookup 68 (.map (some bt)) (.int .i64 v) false).run Tryz.prog w = .ok (.agg #[.int .i64 (toldV told v).v, .int .i64 (toldV told v).t.1, .bool (toldV told v).t.2, .int .u64 (toldN told v)]) w := by
 have hlk := lookup_run keyInt Tryz.underlying68 zeroV h v false
 simp only [Bool.false_eq_true, if_false, mval] at hlk
 unfold toldN toldV
 cases hg : mget told v with
 | none => rw [hg] at hlk; exact hlk
 | some x => rw [hg] at hlk; exact hlk
theorem look_val {m : List (Int × Nat)} {bv : Nat} {w : World} (h : MapAt w bv (Value.int .i64) u64 m) (k : Int) :
  (Instr.lookup 73 (.map (some bv)) (.int .i64 k) false).run Tryz.prog w = .ok (.int .u64 (valN m k : Nat)) w := by
 have hlk := lookup_run keyInt Tryz.underlying73 zeroU h k false
 simp only [Bool.false_eq_true, if_false, mval_u64] at hlk
 exact hlk
set_option maxRecDepth 100000 in
set_option maxHeartbeats 4000000 in
theorem evalVar {ownP : Nat → Prop} {p : Nat} {s : TPool} {told : List (Int × VVal)} {bp cv ct bv bt : Nat} (w : World) (own : Nat → Prop) (m m' : List (Int × Nat)) (f : Int) (h : RepE ownP p s told bp cv ct bv bt w own m) {n : TNode} (hn : nth s.l f = some n) (ho : n.op = sVar) (htold : toldN told n.v < 2 ^ 64) (hr : m' = mput m f (normF n.t (toldN told n.v))) : Calls Tryz.prog 30 #[.int .i64 f, .pointer (some ⟨bp, 0, none⟩), .pointer (some ⟨cv, 0, none⟩), .pointer (some ⟨ct, 0, none⟩)] w fun e w' => e = .returned (.tuple #[]) ∧ ∃ own', RepE ownP p s told bp cv ct bv bt w' own' m' ∧ PMoves own w own' w' := by
 obtain ⟨l0, l1⟩ := nth_lt hn
 obtain ⟨gn, cn, kv, p0, _, hkv, _, e0, e1, e2, e3, e4, e5⟩ := h.pool.node hn
 obtain ⟨KA, KC, rfl, _⟩ := sees_slice hkv.sees
 have x1 : w.cell? ⟨bp, 0, none⟩ = some (.pointer (some ⟨p, 0, none⟩)) := blk_cell h.hbp 0
 have x2 : w.cell? ⟨cv, 0, none⟩ = some (.map (some bv)) := blk_cell h.hcv 0
 have x3 : w.cell? ⟨ct, 0, none⟩ = some (.map (some bt)) := blk_cell h.hct 0
 have m1 := World.block_lt_of_cell? _ _ x1
 have m2 := World.block_lt_of_cell? _ _ x2
 have m3 := World.block_lt_of_cell? _ _ x3
 have m4 := World.block_lt_of_cell? _ _ p0
 have m5 := World.block_lt_of_cell? _ _ e0
 have HH := Lib.hid h
 have HN := Lib.hid hn
 have HKV := Lib.hid hkv
 have HF1 := Lib.hid (frm_alloc w (.cells #[.string n.op, .int .i64 n.t.1, .bool n.t.2, .int .u64 n.num, .int .i64 n.v, .slice KA n.kids.length KC] 76))
 have HH1 := Lib.hid (HH.out.frm0 HF1.out)
 have hmv := HH1.out.mv
 clear h hn hkv
 have d : (n.op.toList == [110, 117, 109]) = false := by rw [eqS, ho]; decide
 have d1 : (n.op.toList == [118, 97, 114]) = true := by rw [eqS]; exact decide_eq_true ho
 subst hr
 have HNm := Lib.hid (fun w1 (hf : Frm (fun _ => False) w w1) => Norm_calls w1 n.t (toldN told n.v) htold (HH.out.frm0 hf).env.tabs)
 have HLK := Lib.hid (fun w1 (hf : Frm (fun _ => False) w w1) => look_told (HH.out.frm0 hf).mt n.v)
 have hlk1 := HLK.out _ HF1.out.drew
 have hfld := field2 (toldV told n.v).v (toldV told n.v).t.1 (toldN told n.v) (toldV told n.v).t.2
 clear ho htold hmv
 go_enter Tryz.func30, Tryz.ntmps30
 go_wp2
 refine Plan.wp_region_plan [0, 0, 0, 4, 0, 0, 32, 112, 240, 508, 1023] [.mk [0, 1, 2, 3, 4, 5, 6, 7, 8] 9 [0, 1], .mk [] 10 []] [] (by kernel_rfl) (by kernel_rfl) ?_
 simp only [Plan.wayOf, Plan.pickAll, List.getElem?_cons_zero, List.getElem?_cons_succ, List.getD_eq_getElem?_getD, Option.getD_some]
 refine Plan.wpWay_seg ?_
 repeat go_big_quiet_step (fail)
 refine wpQuiet_nil ?_; refine Plan.wpWay_act ?_
 go_wp2_with fail
 refine (HNm.out _ HF1.out.drew).mono ?_
 rintro e w2 ⟨rfl, hf2⟩
 have HF2 := Lib.hid (frm_then HF1.out.drew hf2)
 have HH2 := Lib.hid (HH.out.frm0 HF2.out)
 have y2 : w2.cell? ⟨cv, 0, none⟩ = some (.map (some bv)) := blk_cell HH2.out.hcv 0
 have y3 : w2.cell? ⟨ct, 0, none⟩ = some (.map (some bt)) := blk_cell HH2.out.hct 0
 have hb2 := blk_frm (w := (w.alloc (.cells #[.string n.op, .int .i64 n.t.1, .bool n.t.2, .int .u64 n.num, .int .i64 n.v, .slice KA n.kids.length KC] 76)).drew) (show (w.alloc (.cells #[.string n.op, .int .i64 n.t.1, .bool n.t.2, .int .u64 n.num, .int .i64 n.v, .slice KA n.kids.length KC] 76)).drew.heap[w.heap.size]? = _ from blk_new (w := w) (.cells #[.string n.op, .int .i64 n.t.1, .bool n.t.2, .int .u64 n.num, .int .i64 n.v, .slice KA n.kids.length KC] 76)) hf2 id
 have y4 : w2.cell? ⟨w.heap.size, 1, none⟩ = some (.int .i64 n.t.1) := blk_cell hb2 1
 have y5 : w2.cell? ⟨w.heap.size, 2, none⟩ = some (.bool n.t.2) := blk_cell hb2 2
 have y6 : w2.cell? ⟨w.heap.size, 4, none⟩ = some (.int .i64 n.v) := blk_cell hb2 4
 have hlk2 := HLK.out _ HF2.out
 clear hf2 hb2
 go_wp2_with fail
 refine And.intro ?_ ?_; focus ((iterate 2 (refine Plan.again_cons ?_ ?_; focus (go_big_quiet_step (fail); exact wpQuiet_nil rfl))); exact Plan.again_nil)
 refine Plan.wpWay_seg ?_
 refine wpQuiet_nil ?_; refine Plan.wpWay_act ?_
 refine wpList_update rfl _ _ _ 73 rfl keyInt Tryz.underlying73 f (normF n.t (toldN told n.v)) rfl rfl rfl HH2.out.mv ?_
 intro w5 hm5 hg5
 obtain ⟨hR5, hM5⟩ := HH2.out.put f (normF n.t (toldN told n.v)) (norm_lt64 _ _) hm5 hg5
 have HR5 := Lib.hid hR5
 have HM5 := Lib.hid hM5
 clear hR5 hM5 hm5 hg5
 go_simp
 go_wp2_with fail
 refine And.intro Plan.again_nil ?_
 refine Plan.wpWay_last ?_
 refine wpQuiet_nil ?_; refine NoPanic.normal ?_
 go_wp2
 go_end0
 exact ⟨rfl, own, HR5.out, moves_pre HF2.out HM5.out⟩
theorem valN_lt {m : List (Int × Nat)} (h : ∀ k x, mget m k = some x → x < 2 ^ 64) (k : Int) : valN m k < 2 ^ 64 := by
 unfold valN
 cases hg : mget m k with
 | none => show (0 : Nat) < _; omega
 | some x => exact h k x hg
set_option maxRecDepth 100000 in
set_option maxHeartbeats 4000000 in
theorem evalCast {ownP : Nat → Prop} {p : Nat} {s : TPool} {told : List (Int × VVal)} {bp cv ct bv bt : Nat} (w : World) (own : Nat → Prop) (m m' : List (Int × Nat)) (f : Int) (h : RepE ownP p s told bp cv ct bv bt w own m) {n nk : TNode} (hn : nth s.l f = some n) (ho : n.op = sCast) {k : Int} (hk : n.kids = [k]) (hnk : nth s.l k = some nk) (hr : m' = mput m f (castF nk.t n.t (valN m k))) : Calls Tryz.prog 30 #[.int .i64 f, .pointer (some ⟨bp, 0, none⟩), .pointer (some ⟨cv, 0, none⟩), .pointer (some ⟨ct, 0, none⟩)] w fun e w' => e = .returned (.tuple #[]) ∧ ∃ own', RepE ownP p s told bp cv ct bv bt w' own' m' ∧ PMoves own w own' w' := by
 obtain ⟨gn2, cn2, kv2, p02, _, _, _, _, u1, u2, _, _, _⟩ := h.pool.node hnk
 obtain ⟨k0, k1⟩ := nth_lt hnk
 have HNK := Lib.hid hnk
 obtain ⟨l0, l1⟩ := nth_lt hn
 obtain ⟨gn, cn, kv, p0, _, hkv, _, e0, e1, e2, e3, e4, e5⟩ := h.pool.node hn
 obtain ⟨KA, KC, rfl, _⟩ := sees_slice hkv.sees
 have x1 : w.cell? ⟨bp, 0, none⟩ = some (.pointer (some ⟨p, 0, none⟩)) := blk_cell h.hbp 0
 have x2 : w.cell? ⟨cv, 0, none⟩ = some (.map (some bv)) := blk_cell h.hcv 0
 have x3 : w.cell? ⟨ct, 0, none⟩ = some (.map (some bt)) := blk_cell h.hct 0
 have m1 := World.block_lt_of_cell? _ _ x1
 have m2 := World.block_lt_of_cell? _ _ x2
 have m3 := World.block_lt_of_cell? _ _ x3
 have m4 := World.block_lt_of_cell? _ _ p0
 have m5 := World.block_lt_of_cell? _ _ e0
 have HH := Lib.hid h
 have HN := Lib.hid hn
 have HKV := Lib.hid hkv
 have HF1 := Lib.hid (frm_alloc w (.cells #[.string n.op, .int .i64 n.t.1, .bool n.t.2, .int .u64 n.num, .int .i64 n.v, .slice KA n.kids.length KC] 76))
 have HH1 := Lib.hid (HH.out.frm0 HF1.out)
 have hmv := HH1.out.mv
 clear h hn hkv
 obtain rfl : gn2 = gn := by rw [p0] at p02; simpa using (Value.slice.inj (Option.some.inj p02)).1.symm
 have d : (n.op.toList == [110, 117, 109]) = false := by rw [eqS, ho]; decide
 have d1 : (n.op.toList == [118, 97, 114]) = false := by rw [eqS, ho]; decide
 have d2 : (n.op.toList == [99, 97, 115, 116]) = true := by rw [eqS]; exact decide_eq_true ho
 have hkl : n.kids.length = 1 := by rw [hk]; rfl
 obtain ⟨A', c', e', hcell⟩ := sees_slice HKV.out.sees
 cases e'
 obtain ⟨gk, ok, rfl, hck⟩ := hcell 0 k (by rw [hk]; rfl)
 have kc : w.cell? ⟨gk, ok, none⟩ = some (.int .i64 k) := hck
 have m6 := World.block_lt_of_cell? _ _ kc
 have hkp : (0 : Int) < (n.kids.length : Int) := by omega
 subst hr
 have HCa := Lib.hid (fun w1 (hf : Frm (fun _ => False) w w1) => Cast_calls w1 nk.t n.t (valN m k) (valN_lt HH.out.small k) (HH.out.frm0 hf).env.tabs)
 have HLK := Lib.hid (fun w1 (hf : Frm (fun _ => False) w w1) => look_val (HH.out.frm0 hf).mv k)
 have hlk1 := HLK.out _ HF1.out.drew
 clear ho hmv hk hnk hcell hck p02 hkl
 go_enter Tryz.func30, Tryz.ntmps30
 go_wp2
 refine Plan.wp_region_plan [0, 0, 0, 4, 12, 28, 0, 64, 192, 448, 1020, 2044, 4092, 0, 8192, 0, 0, 65536, 196608, 458752, 1015808, 2097148, 4194303] [.mk [0, 1, 2, 3, 4, 5, 6, 7, 8, 9, 10, 11, 12, 13, 14, 15, 16, 17, 18, 19, 20] 21 [0, 1], .mk [] 22 []] [] (by kernel_rfl) (by kernel_rfl) ?_
 simp only [Plan.wayOf, Plan.pickAll, List.getElem?_cons_zero, List.getElem?_cons_succ, List.getD_eq_getElem?_getD, Option.getD_some]
 refine Plan.wpWay_seg ?_
 repeat go_big_quiet_step (fail)
 refine wpQuiet_nil ?_; refine Plan.wpWay_act ?_
 go_wp2_with fail
 refine (HCa.out _ HF1.out.drew).mono ?_
 rintro e w2 ⟨rfl, hf2⟩
 have HF2 := Lib.hid (frm_then HF1.out.drew hf2)
 have HH2 := Lib.hid (HH.out.frm0 HF2.out)
 have y1 : w2.cell? ⟨bp, 0, none⟩ = some (.pointer (some ⟨p, 0, none⟩)) := blk_cell HH2.out.hbp 0
 have y2 : w2.cell? ⟨cv, 0, none⟩ = some (.map (some bv)) := blk_cell HH2.out.hcv 0
 have hb2 := blk_frm (w := (w.alloc (.cells #[.string n.op, .int .i64 n.t.1, .bool n.t.2, .int .u64 n.num, .int .i64 n.v, .slice (some ⟨gk, ok, none⟩) n.kids.length KC] 76)).drew) (show (w.alloc (.cells #[.string n.op, .int .i64 n.t.1, .bool n.t.2, .int .u64 n.num, .int .i64 n.v, .slice (some ⟨gk, ok, none⟩) n.kids.length KC] 76)).drew.heap[w.heap.size]? = _ from blk_new (w := w) (.cells #[.string n.op, .int .i64 n.t.1, .bool n.t.2, .int .u64 n.num, .int .i64 n.v, .slice (some ⟨gk, ok, none⟩) n.kids.length KC] 76)) hf2 id
 have y4 : w2.cell? ⟨w.heap.size, 1, none⟩ = some (.int .i64 n.t.1) := blk_cell hb2 1
 have y5 : w2.cell? ⟨w.heap.size, 2, none⟩ = some (.bool n.t.2) := blk_cell hb2 2
 have y6 : w2.cell? ⟨w.heap.size, 5, none⟩ = some (.slice (some ⟨gk, ok, none⟩) n.kids.length KC) := blk_cell hb2 5
 have y7 := frm_cell HF2.out kc
 have y8 := frm_cell HF2.out p0
 have y9 := frm_cell HF2.out u1
 have y10 := frm_cell HF2.out u2
 have hlk2 := HLK.out _ HF2.out
 clear hf2 hb2
 go_wp2_with fail
 refine And.intro ?_ ?_; focus ((iterate 2 (refine Plan.again_cons ?_ ?_; focus (go_big_quiet_step (fail); exact wpQuiet_nil rfl))); exact Plan.again_nil)
 refine Plan.wpWay_seg ?_
 refine wpQuiet_nil ?_; refine Plan.wpWay_act ?_
 refine wpList_update rfl _ _ _ 73 rfl keyInt Tryz.underlying73 f (castF nk.t n.t (valN m k)) rfl rfl rfl HH2.out.mv ?_
 intro w5 hm5 hg5
 obtain ⟨hR5, hM5⟩ := HH2.out.put f (castF nk.t n.t (valN m k)) (castF_lt _ _ _) hm5 hg5
 have HR5 := Lib.hid hR5
 have HM5 := Lib.hid hM5
 clear hR5 hM5 hm5 hg5
 go_simp
 go_wp2_with fail
 refine And.intro Plan.again_nil ?_
 refine Plan.wpWay_last ?_
 refine wpQuiet_nil ?_; refine NoPanic.normal ?_
 go_wp2
 go_end0
 exact ⟨rfl, own, HR5.out, moves_pre HF2.out HM5.out⟩
end TmW
end Go.Proofs.YtbbajekecppioaaGreatDoor
/- What Eval does with an operator, walked. -/
namespace Go.Proofs.YtbbajekecppioaaGreatDoor
open Go.RowKit Go.Mem Go.Wd Go.Tp
namespace TmW
theorem apply_vals {w : World} (hE : Env w) (op : ByteArray) (hop : op.size ≤ maxLen) (ty : Ty) (vals : List Nat) (hv : ∀ x ∈ vals, x < 2 ^ 64) (h1 : 1 ≤ vals.length) (h3 : vals.length ≤ 3) (v : Value) (hs : Sees w u64 v vals) :
  Calls Tryz.prog 33 #[.string op, .agg #[.int .i64 ty.1, .bool ty.2], v] w fun e w' => e = .returned (.tuple #[.int .u64 (applyF op ty vals).1, .int .i64 (applyF op ty vals).2]) ∧ Frm (fun _ => False) w w' := by
 match vals, hv, h1, h3, hs with
 | [a], hv, _, _, hs => exact apply1_calls w op ty v a (hv a (by simp)) hop hE.tabs hs
 | [a, b], hv, _, _, hs => exact apply2_calls w op ty v a b (hv a (by simp)) (hv b (by simp)) hE.tabs hs
 | [a, b, c], hv, _, _, hs => exact apply3_calls w op ty v a b c hs
set_option maxRecDepth 100000 in
set_option maxHeartbeats 4000000 in
theorem evalOp {ownP : Nat → Prop} {p : Nat} {s : TPool} {told : List (Int × VVal)} {bp cv ct bv bt : Nat} (w : World) (own : Nat → Prop) (m m' : List (Int × Nat)) (f : Int) (h : RepE ownP p s told bp cv ct bv bt w own m) {n nk : TNode} (hn : nth s.l f = some n) (ho1 : n.op ≠ sNum) (ho2 : n.op ≠ sVar) (ho3 : n.op ≠ sCast) (hop : n.op.size ≤ 140737488355328) {k : Int} (hlast : n.kids.getLast? = some k) (hk1 : 1 ≤ n.kids.length) (hk3 : n.kids.length ≤ 3) (hnk : nth s.l k = some nk) (hap : (applyF n.op nk.t (valsN m n.kids)).1 < 2 ^ 64) (hr : m' = mput m f (applyF n.op nk.t (valsN m n.kids)).1) : Calls Tryz.prog 30 #[.int .i64 f, .pointer (some ⟨bp, 0, none⟩), .pointer (some ⟨cv, 0, none⟩), .pointer (some ⟨ct, 0, none⟩)] w fun e w' => e = .returned (.tuple #[]) ∧ ∃ own', RepE ownP p s told bp cv ct bv bt w' own' m' ∧ PMoves own w own' w' := by
 obtain ⟨i0, hi, hz0, hz1, hz2⟩ := info_parts info_u64
 obtain ⟨gn2, cn2, kv2, p02, _, _, _, _, u1, u2, _, _, _⟩ := h.pool.node hnk
 obtain ⟨k0, k1⟩ := nth_lt hnk
 obtain ⟨l0, l1⟩ := nth_lt hn
 obtain ⟨gn, cn, kv, p0, _, hkv, _, e0, e1, e2, e3, e4, e5⟩ := h.pool.node hn
 obtain ⟨KA, KC, rfl, _⟩ := sees_slice hkv.sees
 have x1 : w.cell? ⟨bp, 0, none⟩ = some (.pointer (some ⟨p, 0, none⟩)) := blk_cell h.hbp 0
 have x2 : w.cell? ⟨cv, 0, none⟩ = some (.map (some bv)) := blk_cell h.hcv 0
 have x3 : w.cell? ⟨ct, 0, none⟩ = some (.map (some bt)) := blk_cell h.hct 0
 have m1 := World.block_lt_of_cell? _ _ x1
 have m2 := World.block_lt_of_cell? _ _ x2
 have m3 := World.block_lt_of_cell? _ _ x3
 have m4 := World.block_lt_of_cell? _ _ p0
 have m5 := World.block_lt_of_cell? _ _ e0
 have HH := Lib.hid h
 have HN := Lib.hid hn
 have HKV := Lib.hid hkv
 have HF1 := Lib.hid (frm_alloc w (.cells #[.string n.op, .int .i64 n.t.1, .bool n.t.2, .int .u64 n.num, .int .i64 n.v, .slice KA n.kids.length KC] 76))
 have HH1 := Lib.hid (HH.out.frm0 HF1.out)
 have hmv := HH1.out.mv
 clear h hn hkv
 obtain rfl : gn2 = gn := by rw [p0] at p02; simpa using (Value.slice.inj (Option.some.inj p02)).1.symm
 have d : (n.op.toList == [110, 117, 109]) = false := by rw [eqS]; exact decide_eq_false ho1
 have d1 : (n.op.toList == [118, 97, 114]) = false := by rw [eqS]; exact decide_eq_false ho2
 have d2 : (n.op.toList == [99, 97, 115, 116]) = false := by rw [eqS]; exact decide_eq_false ho3
 obtain ⟨A', c', e', hcell⟩ := sees_slice HKV.out.sees
 cases e'
 have hlk0 : n.kids[n.kids.length - 1]? = some k := by rw [← List.getLast?_eq_getElem?]; exact hlast
 obtain ⟨gk, ok, rfl, hck⟩ := hcell (n.kids.length - 1) k hlk0
 have kc : w.cell? ⟨gk, ok + (n.kids.length - 1), none⟩ = some (.int .i64 k) := hck
 have m6 := World.block_lt_of_cell? _ _ kc
 have hop' : n.op.size ≤ maxLen := by have : maxLen = 9223372036854775807 := rfl; omega
 subst hr
 have HAP := Lib.hid (fun w1 v (hf : Frm (fun _ => False) w w1) (hs : Sees w1 u64 v (valsN m n.kids)) => apply_vals (HH.out.frm0 hf).env n.op hop' nk.t (valsN m n.kids) (fun x hx => by obtain ⟨y, _, rfl⟩ := List.mem_map.1 hx; exact valN_lt HH.out.small y) (by simpa [valsN] using hk1) (by simpa [valsN] using hk3) v hs)
 have HLK := Lib.hid (fun w1 y (hf : Frm (fun _ => False) w w1) => look_val (HH.out.frm0 hf).mv y)
 have Hap := Lib.hid hap
 have HCE := Lib.hid hcell
 clear ho1 ho2 ho3 hop hop' hmv hlast hnk hcell hck p02 hlk0 hap
 generalize hq : (applyF n.op nk.t (valsN m n.kids)).1 = q at *
 generalize (applyF n.op nk.t (valsN m n.kids)).2 = q2 at *
 clear hq
 go_enter Tryz.func30, Tryz.ntmps30
 go_wp2
 obtain ⟨w1, hw1⟩ : ∃ w1, w1 = w.alloc (.cells #[.string n.op, .int .i64 n.t.1, .bool n.t.2, .int .u64 n.num, .int .i64 n.v, .slice (some ⟨gk, ok, none⟩) n.kids.length KC] 76) := ⟨_, rfl⟩
 rw [← hw1]
 rw [← hw1] at HF1 HH1
 have HB1 := Lib.hid (show w1.heap[w.heap.size]? = some (.cells #[.string n.op, .int .i64 n.t.1, .bool n.t.2, .int .u64 n.num, .int .i64 n.v, .slice (some ⟨gk, ok, none⟩) n.kids.length KC] 76) by rw [hw1]; exact blk_new _)
 clear hw1
 go_loopw [6, 21] (fun v6 v21 w' => ∃ j : Nat, j ≤ n.kids.length ∧ v21 = .int .i64 j ∧ Hid (Row w' 24 u64 v6 (valsN m (n.kids.take j))) ∧ Hid (Frm (fun _ => False) w1 w') ∧ Hid (∀ g, v6.ownBlock = some g → w1.heap.size ≤ g)) (fun _ v21 _ => n.kids.length - (intOf v21).toNat)
 case atStart => exact ⟨0, Nat.zero_le _, rfl, Lib.hid (Row.nil _ _ _), Lib.hid (Frm.refl _ _), Lib.hid fun g hg => by cases hg⟩
 case round =>
  obtain ⟨j, hj, rfl, HR, HFr, HO⟩ := hrel
  have HFw := Lib.hid (frm_then HF1.out HFr.out)
  have HHr := Lib.hid (HH.out.frm0 HFw.out)
  by_cases hlt : j < n.kids.length
  ·obtain ⟨x, hx⟩ : ∃ x, n.kids[j]? = some x := ⟨_, List.getElem?_eq_getElem hlt⟩
   obtain ⟨gk2, ok2, e2, hck2⟩ := HCE.out j x hx
   cases e2
   have kx := frm_cell HFw.out hck2
   have htk : valsN m (n.kids.take (j + 1)) = valsN m (n.kids.take j) ++ [valN m x] := by unfold valsN; rw [List.take_add_one, hx, List.map_append]; rfl
   have HTK := Lib.hid htk
   have hlkx := HLK.out _ x HFw.out
   have z2 : wr.cell? ⟨cv, 0, none⟩ = some (.map (some bv)) := blk_cell HHr.out.hcv 0
   have hltI : (j : Int) < (n.kids.length : Int) := by omega
   have hll : (valsN m (n.kids.take j)).length ≤ 3 := by unfold valsN; rw [List.length_map, List.length_take]; omega
   clear hx hck2 htk
   go_wp2_with (first | (at_builtin; refine wpList_append_row rfl _ _ 29 rfl 24 i0 (.int .u64 0) 8 Tryz.underlying29 hi hz0 hz1 hz2 rfl (enc := u64) u6 (valsN m (n.kids.take j)) rfl (HR.out.frm0 (frm_alloc _ _)) ⟨wr.heap.size, 0, none⟩ 1 (valN m x) rfl ?c1 rfl ?c2 ?c3 ?_) | go_in)
   case c1 => exact blk_cell (blk_new _) 0
   case c2 => have : maxLen = 9223372036854775807 := rfl; omega
   case c3 => omega
   intro g cap' w7 hrow hfr hg hlt7
   have HR' := Lib.hid hrow
   have HF' := Lib.hid ((frm_then HFr.out (frm_alloc _ _)).trans hfr fun x hx h => by have := HO.out x h; omega)
   have Hg := Lib.hid (show w1.heap.size ≤ g by rcases hg with h | h; exact HO.out g h; rw [h]; have := HFr.out.size; omega)
   clear hrow hfr hg
   go_wp2
   go_roundw
   case rel => exact ⟨j + 1, by omega, by go_num, Lib.hid (by rw [HTK.out]; exact HR'.out), HF', Lib.hid fun g' hg' => by cases hg'; exact Hg.out⟩
   case measure => simp [intOf]; omega
  ·have hje : j = n.kids.length := by omega
   subst hje
   rw [List.take_length] at HR
   have hltI : ¬ (n.kids.length : Int) < (n.kids.length : Int) := by omega
   clear hlt hj
   obtain ⟨VA, vc, rfl, _⟩ := sees_slice HR.out.sees
   have hbr := blk_frm HB1.out HFr.out id
   have r0 : wr.cell? ⟨w.heap.size, 0, none⟩ = some (.string n.op) := blk_cell hbr 0
   have r5 : wr.cell? ⟨w.heap.size, 5, none⟩ = some (.slice (some ⟨gk, ok, none⟩) n.kids.length KC) := blk_cell hbr 5
   have r1 : wr.cell? ⟨bp, 0, none⟩ = some (.pointer (some ⟨p, 0, none⟩)) := blk_cell HHr.out.hbp 0
   have r2 : wr.cell? ⟨cv, 0, none⟩ = some (.map (some bv)) := blk_cell HHr.out.hcv 0
   have r7 := frm_cell HFw.out kc
   have r8 := frm_cell HFw.out p0
   have r9 := frm_cell HFw.out u1
   have r10 := frm_cell HFw.out u2
   have HBR := Lib.hid hbr
   clear hbr
   go_wp2
   refine Plan.wp_region_plan [0, 0, 0, 4, 0, 16, 48, 112, 0, 256, 0, 1024, 3072, 7168, 16128, 32512, 65520, 131056, 262128, 0, 1048572, 2097148, 4194300, 4194300, 8388607] [.mk [0, 1, 2, 3, 4, 5, 6, 7, 8, 9, 10, 11, 12, 13, 14, 15, 16, 17, 18, 19] 20 [0, 1], .mk [21, 22, 23] 24 [23]] [] (by kernel_rfl) (by kernel_rfl) ?_
   simp only [Plan.wayOf, Plan.pickAll, List.getElem?_cons_zero, List.getElem?_cons_succ, List.getD_eq_getElem?_getD, Option.getD_some]
   refine Plan.wpWay_seg ?_
   repeat go_big_quiet_step (fail)
   refine wpQuiet_nil ?_; refine Plan.wpWay_act ?_
   go_wp2_with fail
   refine (HAP.out _ _ HFw.out.drew (HR.out.sees.frm (S := fun _ => False) (Frm.refl _ _).drew fun _ _ _ => id)).mono ?_
   rintro e w2 ⟨rfl, hf2⟩
   have HF2 := Lib.hid (frm_then HFw.out.drew hf2)
   have HH2 := Lib.hid (HH.out.frm0 HF2.out)
   have y1 : w2.cell? ⟨bp, 0, none⟩ = some (.pointer (some ⟨p, 0, none⟩)) := blk_cell HH2.out.hbp 0
   have y2 : w2.cell? ⟨cv, 0, none⟩ = some (.map (some bv)) := blk_cell HH2.out.hcv 0
   have hb2 := blk_frm (w := wr.drew) HBR.out hf2 id
   have y4 : w2.cell? ⟨w.heap.size, 0, none⟩ = some (.string n.op) := blk_cell hb2 0
   have y6 : w2.cell? ⟨w.heap.size, 5, none⟩ = some (.slice (some ⟨gk, ok, none⟩) n.kids.length KC) := blk_cell hb2 5
   have y7 := frm_cell HF2.out kc
   have y8 := frm_cell HF2.out p0
   have y9 := frm_cell HF2.out u1
   have y10 := frm_cell HF2.out u2
   clear hf2 hb2
   go_wp2_with fail
   refine And.intro ?_ ?_; focus ((iterate 2 (refine Plan.again_cons ?_ ?_; focus (go_big_quiet_step (fail); exact wpQuiet_nil rfl))); exact Plan.again_nil)
   refine Plan.wpWay_seg ?_
   repeat go_big_quiet_step (fail)
   refine wpQuiet_nil ?_; refine Plan.wpWay_act ?_
   refine wpList_update rfl _ _ _ 73 rfl keyInt Tryz.underlying73 f q rfl rfl rfl HH2.out.mv ?_
   intro w5 hm5 hg5
   obtain ⟨hR5, hM5⟩ := HH2.out.put f q Hap.out hm5 hg5
   have HR5 := Lib.hid hR5
   have HM5 := Lib.hid hM5
   clear hR5 hM5 hm5 hg5
   go_simp
   go_wp2_with fail
   refine And.intro ?_ ?_; focus ((iterate 1 (refine Plan.again_cons ?_ ?_; focus (go_big_quiet_step (fail); exact wpQuiet_nil rfl))); exact Plan.again_nil)
   refine Plan.wpWay_last ?_
   refine wpQuiet_nil ?_; refine NoPanic.normal ?_
   go_wp2
   go_end0
   exact ⟨rfl, own, HR5.out, moves_pre HF2.out HM5.out⟩
end TmW
end Go.Proofs.YtbbajekecppioaaGreatDoor
