/- Numbers of a width: what package word computes, as plain functions. No program in sight. -/
import Derived.WalkKit
import Derived.Lib.Hide
import Derived.Test.YtbbajekecppioaaGreatDoorChecked
import Derived.Test.YtbbajekecppioaaGreatDoorGa01
import Derived.Laws.Rows
set_option linter.unusedSimpArgs false
set_option linter.unusedVariables false
namespace Go.Wd
abbrev Ty := Int × Bool
def tyOf (k : Nat) : Ty := match k with | 0 => (1, false) | 1 => (8, false) | 2 => (16, false) | 3 => (32, false) | 4 => (64, false) | 5 => (8, true) | 6 => (16, true) | 7 => (32, true) | _ => (64, true)
def nmOf (k : Nat) : ByteArray := match k with | 0 => ⟨#[98, 111, 111, 108]⟩ | 1 => ⟨#[117, 56]⟩ | 2 => ⟨#[117, 49, 54]⟩ | 3 => ⟨#[117, 51, 50]⟩ | 4 => ⟨#[117, 54, 52]⟩ | 5 => ⟨#[105, 56]⟩ | 6 => ⟨#[105, 49, 54]⟩ | 7 => ⟨#[105, 51, 50]⟩ | 8 => ⟨#[105, 54, 52]⟩ | _ => ⟨#[]⟩
def nameFrom (t : Ty) : Nat → Nat → ByteArray
 | _, 0 => ⟨#[]⟩
 | k, n + 1 => if tyOf k = t then nmOf k else nameFrom t (k + 1) n
def nameF (t : Ty) : ByteArray := nameFrom t 0 9
def rightF (t : Ty) : Bool := !(nameF t).toList.isEmpty
theorem right_iff {t : Ty} : rightF t = true ↔ t = (1, false) ∨ t = (8, false) ∨ t = (16, false) ∨ t = (32, false) ∨ t = (64, false) ∨ t = (8, true) ∨ t = (16, true) ∨ t = (32, true) ∨ t = (64, true) := by
 constructor
 ·intro h
  unfold rightF nameF at h
  simp only [nameFrom, tyOf] at h
  repeat' split at h
  all_goals first | (rename_i h1; subst h1; simp) | (simp at h)
 ·rintro (rfl | rfl | rfl | rfl | rfl | rfl | rfl | rfl | rfl) <;> kernel_rfl
def wid (t : Ty) : Nat := t.1.toNat
def maskF (t : Ty) : Nat := 2 ^ wid t - 1
theorem wid_le {t : Ty} (ht : rightF t = true) : 1 ≤ wid t ∧ wid t ≤ 64 := by
 rcases right_iff.1 ht with rfl | rfl | rfl | rfl | rfl | rfl | rfl | rfl | rfl <;> exact ⟨by decide, by decide⟩
theorem mask_lt {t : Ty} (ht : rightF t = true) : maskF t < 2 ^ 64 := by
 have := Nat.pow_le_pow_right (n := 2) (by decide) (wid_le ht).2
 have h0 := Nat.two_pow_pos (wid t)
 unfold maskF
 omega
def normF (t : Ty) (v : Nat) : Nat := if rightF t then v % 2 ^ wid t else 0
theorem norm_lt {t : Ty} (v : Nat) (ht : rightF t = true) : normF t v < 2 ^ wid t := by
 unfold normF
 rw [if_pos ht]
 exact Nat.mod_lt _ (Nat.two_pow_pos _)
theorem norm_lt64 (t : Ty) (v : Nat) : normF t v < 2 ^ 64 := by
 by_cases ht : rightF t = true
 ·exact Nat.lt_of_lt_of_le (norm_lt v ht) (Nat.pow_le_pow_right (by decide) (wid_le ht).2)
 ·unfold normF; rw [if_neg ht]; exact Nat.two_pow_pos _
/-- A number of 64 bits as one with a sign, and back. -/
def toI (v : Nat) : Int := if v < 2 ^ 63 then v else (v : Int) - 2 ^ 64
def ofI (i : Int) : Nat := (i % 2 ^ 64).toNat
theorem ofI_lt (i : Int) : ofI i < 2 ^ 64 := by unfold ofI; omega
theorem ofI_nat {n : Nat} (h : n < 2 ^ 64) : ofI n = n := by unfold ofI; omega
def topF (t : Ty) (v : Nat) : Bool := decide (v / 2 ^ (wid t - 1) = 1)
def intF (t : Ty) (v : Nat) : Int := if t.2 && (rightF t && topF t (normF t v)) then (normF t v : Int) - 2 ^ wid t else toI (normF t v)
theorem int_in (t : Ty) (v : Nat) : -(2 ^ 63) ≤ intF t v ∧ intF t v < 2 ^ 63 := by
 have h64 := norm_lt64 t v
 have htoI : -(2 ^ 63) ≤ toI (normF t v) ∧ toI (normF t v) < 2 ^ 63 := by unfold toI; split <;> omega
 unfold intF
 split
 ·rename_i h
  simp only [Bool.and_eq_true] at h
  obtain ⟨_, hr, h1⟩ := h
  have hl := norm_lt v hr
  obtain ⟨a, b⟩ := wid_le hr
  have hp : (2 : Int) ^ wid t = ((2 ^ wid t : Nat) : Int) := by simp
  have e : 2 ^ wid t = 2 * 2 ^ (wid t - 1) := by rw [← Nat.pow_succ']; congr 1; omega
  have hq : 2 ^ (wid t - 1) ≤ 2 ^ 63 := Nat.pow_le_pow_right (by decide) (by omega)
  have h3 : 2 ^ (wid t - 1) ≤ normF t v := by
   rcases Nat.lt_or_ge (normF t v) (2 ^ (wid t - 1)) with h4 | h4
   ·have := Nat.div_eq_of_lt h4
    unfold topF at h1
    rw [this] at h1; simp at h1
   ·exact h4
  rw [hp]
  omega
 ·exact htoI
def shiftF (t : Ty) (a b : Nat) : Nat := if t.2 then ofI (intF t a / 2 ^ min b 63) else if 64 ≤ b then 0 else a / 2 ^ b
def divF (t : Ty) (a b : Nat) : Nat × Nat :=
 if t.2 then (if intF t b = -1 then (ofI (-intF t a), 0) else (ofI ((intF t a).tdiv (intF t b)), ofI ((intF t a).tmod (intF t b)))) else (a / b, a % b)
inductive Bin | and | or | xor | add | sub | mul | shl | shr | quo | rem
 deriving DecidableEq
def binF (t : Ty) (k : Bin) (a b : Nat) : Nat := match k with
 | .and => a &&& b
 | .or => a ||| b
 | .xor => a ^^^ b
 | .add => (a + b) % 2 ^ 64
 | .sub => (a + 2 ^ 64 - b) % 2 ^ 64
 | .mul => (a * b) % 2 ^ 64
 | .shl => if 64 ≤ b then 0 else (a * 2 ^ b) % 2 ^ 64
 | .shr => shiftF t a b
 | .quo => (divF t a b).1
 | .rem => (divF t a b).2
abbrev sAnd : ByteArray := ⟨#[38]⟩
abbrev sOr : ByteArray := ⟨#[124]⟩
abbrev sXor : ByteArray := ⟨#[94]⟩
abbrev sAdd : ByteArray := ⟨#[43]⟩
abbrev sSub : ByteArray := ⟨#[45]⟩
abbrev sMul : ByteArray := ⟨#[42]⟩
abbrev sShl : ByteArray := ⟨#[60, 60]⟩
abbrev sShr : ByteArray := ⟨#[62, 62]⟩
abbrev sQuo : ByteArray := ⟨#[47]⟩
abbrev sRem : ByteArray := ⟨#[37]⟩
abbrev sEq : ByteArray := ⟨#[61, 61]⟩
abbrev sNe : ByteArray := ⟨#[33, 61]⟩
abbrev sLt : ByteArray := ⟨#[60]⟩
abbrev sLe : ByteArray := ⟨#[60, 61]⟩
abbrev sGt : ByteArray := ⟨#[62]⟩
abbrev sGe : ByteArray := ⟨#[62, 61]⟩
abbrev sNot : ByteArray := ⟨#[33]⟩
abbrev sTil : ByteArray := ⟨#[126]⟩
/-- Which operators there are for a type. -/
def opsF (t : Ty) : List (ByteArray × Bin) :=
 if t.1 = 1 then [(sAnd, .and), (sOr, .or), (sXor, .xor)]
 else [(sAnd, .and), (sOr, .or), (sXor, .xor), (sAdd, .add), (sSub, .sub), (sMul, .mul), (sShl, .shl), (sShr, .shr), (sQuo, .quo), (sRem, .rem)]
def getF : List (ByteArray × Bin) → ByteArray → Option Bin
 | [], _ => none
 | (a, k) :: r, op => if a = op then some k else getF r op
def doF (t : Ty) (op : ByteArray) (a b : Nat) : Nat × Int :=
 if rightF t then
  match getF (opsF t) op with
  | none => (0, 12)
  | some k => if normF t b = 0 ∧ (op = sQuo ∨ op = sRem) then (0, 11) else (normF t (binF t k (normF t a) (normF t b)), 0)
 else (0, 10)
def lessF (t : Ty) (a b : Nat) : Bool := if t.2 then decide (intF t a < intF t b) else decide (normF t a < normF t b)
def testF (t : Ty) (op : ByteArray) (a b : Nat) : Bool × Int :=
 if rightF t then
  if op = sEq then (decide (normF t a = normF t b), 0)
  else if op = sNe then (!decide (normF t a = normF t b), 0)
  else if 1 < t.1 then
   if op = sLt then (lessF t (normF t a) (normF t b), 0)
   else if op = sLe then (!lessF t (normF t b) (normF t a), 0)
   else if op = sGt then (lessF t (normF t b) (normF t a), 0)
   else if op = sGe then (!lessF t (normF t a) (normF t b), 0)
   else (false, 12)
  else (false, 12)
 else (false, 10)
def turnF (t : Ty) (op : ByteArray) (a : Nat) : Nat × Int :=
 if rightF t then
  if op = sSub ∧ 1 < t.1 then (normF t ((2 ^ 64 - a) % 2 ^ 64), 0)
  else if (op = sTil ∧ 1 < t.1) ∨ (op = sNot ∧ t.1 = 1) then (normF t (2 ^ 64 - 1 - a), 0)
  else (0, 12)
 else (0, 10)
def castF (s t : Ty) (v : Nat) : Nat :=
 if rightF s && rightF t then (if t.1 = 1 then min (normF s v) 1 else normF t (ofI (intF s v))) else 0
end Go.Wd
/- word.Name walked. -/
namespace Go.Proofs.YtbbajekecppioaaGreatDoor
open Go.RowKit Go.Mem Go.Wd
namespace TmW
def tyCells : Array Value := #[.int .i64 1, .bool false, .string ⟨#[98, 111, 111, 108]⟩, .int .i64 8, .bool false, .string ⟨#[117, 56]⟩, .int .i64 16, .bool false, .string ⟨#[117, 49, 54]⟩, .int .i64 32, .bool false, .string ⟨#[117, 51, 50]⟩, .int .i64 64, .bool false, .string ⟨#[117, 54, 52]⟩, .int .i64 8, .bool true, .string ⟨#[105, 56]⟩, .int .i64 16, .bool true, .string ⟨#[105, 49, 54]⟩, .int .i64 32, .bool true, .string ⟨#[105, 51, 50]⟩, .int .i64 64, .bool true, .string ⟨#[105, 54, 52]⟩]
/-- The table of types lies where the program lays it. -/
def Tabs (w : World) : Prop := ∃ t z, w.heap[0]? = some (.cells tyCells t z)
set_option maxRecDepth 100000 in
theorem Name_calls (w : World) (t : Int × Bool) (hT : Tabs w) :
  Calls Tryz.prog 46 #[.agg #[.int .i64 t.1, .bool t.2]] w fun e w' => e = .returned (.string (nameF t)) ∧ Frm (fun _ => False) w w' := by
 obtain ⟨ty, z, hg⟩ := hT
 go_enter Tryz.func46, Tryz.ntmps46
 go_wp2_with (refine wpList_load_row rfl 118 _ rfl 0 rfl ty tyCells z _ (blk_alloc hg _) Tryz.underlying118 rfl (by kernel_rfl) ?_)
 go_loopw [6] (fun v6 w' => ∃ k : Nat, k ≤ 9 ∧ v6 = .int .i64 k ∧ nameF t = nameFrom t k (9 - k) ∧ Hid (Frm (fun _ => False) w w') ∧ w'.cell? ⟨w.heap.size, 0, none⟩ = some (.int .i64 t.1) ∧ w'.cell? ⟨w.heap.size, 1, none⟩ = some (.bool t.2)) (fun v6 _ => 9 - (intOf v6).toNat)
 case atStart => exact ⟨0, by omega, rfl, rfl, Lib.hid ((Frm.refl _ _).alloc _), by simp, by simp⟩
 case round =>
  obtain ⟨k, hk, rfl, hn, HF, ha, hb⟩ := hrel
  have hl := World.block_lt_of_cell? wr _ ha
  have hidx : ∀ w2, (Instr.index 118 (.agg tyCells) (.int .i64 (k : Int))).run Tryz.prog w2 = if k < 9 then .ok (.agg #[.int .i64 (tyOf k).1, .bool (tyOf k).2, .string (nmOf k)]) w2 else (boundsPanic .i64 k 9 .index).run Tryz.prog w2 := by
   intro w2
   obtain rfl | rfl | rfl | rfl | rfl | rfl | rfl | rfl | rfl | rfl : k = 0 ∨ k = 1 ∨ k = 2 ∨ k = 3 ∨ k = 4 ∨ k = 5 ∨ k = 6 ∨ k = 7 ∨ k = 8 ∨ k = 9 := by omega
   all_goals simp [Instr.index, run_underlying Tryz.underlying118, asIntOf, go_sem, tyCells, tyOf, nmOf]
  by_cases hlt : k < 9
  ·simp only [if_pos hlt] at hidx
   rw [show 9 - k = (8 - k) + 1 by omega, nameFrom] at hn
   have Hn := Lib.hid hn
   clear hn
   go_wp2
   ·go_ret
    refine ⟨?_, HF.out.alloc _⟩
    rw [Hn.out, if_pos (Prod.ext (by simp_all) (by simp_all))]
    rfl
   ·refine ⟨⟨k + 1, by omega, by go_num, ?_, Lib.hid (HF.out.alloc _), ?_, ?_⟩, by simp [intOf]; omega⟩
    ·rw [Hn.out, if_neg (fun e => by subst e; simp_all), show 9 - (k + 1) = 8 - k by omega]
    ·exact (World.cell?_alloc_past _ w.heap.size 0 hl).trans ha
    ·exact (World.cell?_alloc_past _ w.heap.size 1 hl).trans hb
   ·refine ⟨⟨k + 1, by omega, by go_num, ?_, Lib.hid (HF.out.alloc _), ?_, ?_⟩, by simp [intOf]; omega⟩
    ·rw [Hn.out, if_neg (fun e => by subst e; simp_all), show 9 - (k + 1) = 8 - k by omega]
    ·exact (World.cell?_alloc_past _ w.heap.size 0 hl).trans ha
    ·exact (World.cell?_alloc_past _ w.heap.size 1 hl).trans hb
  ·simp only [if_neg hlt] at hidx
   have hk9 : 9 - k = 0 := by omega
   rw [hk9, nameFrom] at hn
   go_wp2
   go_ret
   exact ⟨rfl, HF.out⟩
end TmW
end Go.Proofs.YtbbajekecppioaaGreatDoor
/- word.Right, mask, Norm, Int walked. -/
namespace Go.Proofs.YtbbajekecppioaaGreatDoor
open Go.RowKit Go.Mem Go.Wd
namespace TmW
theorem Tabs.frm {S : Nat → Prop} {w w' : World} (h : Tabs w) (hf : Frm S w w') (hS : ¬ S 0) : Tabs w' := by
 obtain ⟨t, z, h⟩ := h
 exact ⟨t, z, blk_frm h hf hS⟩
theorem Tabs.frm0 {w w' : World} (h : Tabs w) (hf : Frm (fun _ => False) w w') : Tabs w' := h.frm hf id
set_option maxRecDepth 100000 in
theorem Right_calls (w : World) (t : Int × Bool) (hT : Tabs w) :
  Calls Tryz.prog 37 #[.agg #[.int .i64 t.1, .bool t.2]] w fun e w' => e = .returned (.bool (rightF t)) ∧ Frm (fun _ => False) w w' := by
 have HT := Lib.hid hT
 clear hT
 go_enter Tryz.func37, Tryz.ntmps37
 go_wp2_with (go_at_call 46; refine (Name_calls _ t (HT.out.frm0 ((Frm.refl _ _).alloc _))).mono ?_; rintro e w' ⟨rfl, hf⟩)
 go_ret
 exact ⟨rfl, ((Frm.refl _ _).alloc _).trans hf fun _ _ => id⟩
end TmW
end Go.Proofs.YtbbajekecppioaaGreatDoor
/- word.mask, Norm walked. -/
namespace Go.Proofs.YtbbajekecppioaaGreatDoor
open Go.RowKit Go.Mem Go.Wd
namespace TmW
set_option maxRecDepth 100000 in
theorem mask_calls (w : World) (t : Int × Bool) (ht : rightF t = true) :
  Calls Tryz.prog 60 #[.agg #[.int .i64 t.1, .bool t.2]] w fun e w' => e = .returned (.int .u64 (maskF t)) ∧ Frm (fun _ => False) w w' := by
 have HH : Hid (Frm (fun _ => False) w (w.alloc (.cells #[.int .i64 t.1, .bool t.2] 23))) := Lib.hid ((Frm.refl _ _).alloc _)
 go_enter Tryz.func60, Tryz.ntmps60
 rcases right_iff.1 ht with rfl | rfl | rfl | rfl | rfl | rfl | rfl | rfl | rfl
 all_goals
  clear ht
  go_wp2
  go_ret
  exact ⟨rfl, HH.out⟩
theorem ofInt_nat64 (a : Nat) (ha : a < 2 ^ 64) : (BitVec.ofInt IntKind.u64.bits (a : Int)).toNat = a := by
 show (BitVec.ofInt 64 (a : Int)).toNat = a
 rw [BitVec.ofInt_natCast, BitVec.toNat_ofNat]
 exact Nat.mod_eq_of_lt ha
theorem wrap_nat64 (a : Nat) (ha : a < 2 ^ 64) : IntKind.u64.wrap (a : Int) = a := by
 simp only [IntKind.wrap, IntKind.bits, IntKind.signed]
 simp
 omega
theorem bits_and_u64 (a b : Nat) (ha : a < 2 ^ 64) (hb : b < 2 ^ 64) : bits .and .u64 (a : Int) (b : Int) = ((a &&& b : Nat) : Int) := by
 unfold bits
 simp only [BitVec.toNat_and, ofInt_nat64 a ha, ofInt_nat64 b hb]
 exact wrap_nat64 _ (Nat.and_lt_two_pow (n := 64) a hb)
set_option maxRecDepth 100000 in
theorem Norm_calls (w : World) (t : Int × Bool) (v : Nat) (hv : v < 2 ^ 64) (hT : Tabs w) :
  Calls Tryz.prog 31 #[.agg #[.int .i64 t.1, .bool t.2], .int .u64 v] w fun e w' => e = .returned (.int .u64 (normF t v)) ∧ Frm (fun _ => False) w w' := by
 have HT := Lib.hid hT
 have HV := Lib.hid hv
 clear hT hv
 go_enter Tryz.func31, Tryz.ntmps31
 go_wp2_with (first | (go_at_call 37; refine (Right_calls _ t (HT.out.frm0 ((Frm.refl _ _).alloc _))).mono ?_; rintro e w1 ⟨rfl, hf1⟩; have hb0 := (blk_cell (blk_frm (blk_new (w := w) _) hf1 id) 0); have hb1 := (blk_cell (blk_frm (blk_new (w := w) _) hf1 id) 1); simp only [List.getElem?_toArray, List.getElem?_cons_zero, List.getElem?_cons_succ] at hb0 hb1; have HF := Lib.hid hf1; clear hf1; rcases hr : rightF t with _ | _) | (go_at_call 60; refine (mask_calls _ t hr).mono ?_; rintro e w2 ⟨rfl, hf2⟩))
 ·go_ret
  exact ⟨by unfold normF; rw [hr]; rfl, ((Frm.refl _ _).alloc _).trans HF.out fun _ _ => id⟩
 ·rw [bits_and_u64 v _ HV.out (mask_lt hr)]
  go_ret
  refine ⟨?_, (((Frm.refl _ _).alloc _).trans HF.out fun _ _ => id).trans hf2 fun _ _ => id⟩
  unfold normF maskF
  rw [hr, Nat.and_two_pow_sub_one_eq_mod]
  rfl
end TmW
end Go.Proofs.YtbbajekecppioaaGreatDoor
/- word.Int walked. -/
namespace Go.Proofs.YtbbajekecppioaaGreatDoor
open Go.RowKit Go.Mem Go.Wd
namespace TmW
theorem box_cells {w w1 : World} {x y : Value} {ty : TypeId} (hf : Frm (fun _ => False) (w.alloc (.cells #[x, y] ty)) w1) : w1.cell? ⟨w.heap.size, 0, none⟩ = some x ∧ w1.cell? ⟨w.heap.size, 1, none⟩ = some y := by
 have h := blk_frm (blk_new (w := w) (.cells #[x, y] ty)) hf id
 exact ⟨blk_cell h 0, blk_cell h 1⟩
theorem frm_cell {w w1 : World} {a : Addr} {x : Value} (hf : Frm (fun _ => False) w w1) (h : w.cell? a = some x) : w1.cell? a = some x := by
 obtain ⟨b, o, e⟩ := a
 have hl := World.block_lt_of_cell? _ _ h
 rw [World.cell?_of_block (w := w) (hf.block b hl id)]
 exact h
theorem frm_alloc (w : World) (o : Obj) : Frm (fun _ => False) w (w.alloc o) := (Frm.refl _ _).alloc o
theorem frm_then {w w1 w2 : World} (h : Frm (fun _ => False) w w1) (k : Frm (fun _ => False) w1 w2) : Frm (fun _ => False) w w2 := h.trans k fun _ _ => id
theorem bits_or_u64 (a b : Nat) (ha : a < 2 ^ 64) (hb : b < 2 ^ 64) : bits .or .u64 (a : Int) (b : Int) = ((a ||| b : Nat) : Int) := by
 unfold bits
 simp only [BitVec.toNat_or, ofInt_nat64 a ha, ofInt_nat64 b hb]
 exact wrap_nat64 _ (Nat.or_lt_two_pow (n := 64) ha hb)
theorem wrap_toI (v : Nat) (hv : v < 2 ^ 64) : wrap64 (v : Int) = toI v := by
 unfold toI wrap64
 split <;> omega
theorem or_top (n x : Nat) (hn : n ≤ 64) (hx : x < 2 ^ n) : (x ||| (2 ^ 64 - 2 ^ n)) = x + (2 ^ 64 - 2 ^ n) := by
 have e : 2 ^ 64 - 2 ^ n = 2 ^ n * (2 ^ (64 - n) - 1) := by rw [Nat.mul_sub, ← Nat.pow_add, Nat.mul_one]; congr 2; omega
 rw [e, Nat.or_comm, ← Nat.two_pow_add_eq_or_of_lt hx, Nat.add_comm]
theorem int_plain {t : Ty} {v : Nat} (h : (t.2 && (rightF t && topF t (normF t v))) = false) : intF t v = toI (normF t v) := by unfold intF; rw [h]; rfl
theorem int_top {t : Ty} {v : Nat} (h0 : t.2 = true) (h1 : rightF t = true) (h : topF t (normF t v) = true) : intF t v = wrap64 (((normF t v ||| (2 ^ 64 - 2 ^ wid t) : Nat)) : Int) := by
 have hl := norm_lt v h1
 have hw := wid_le h1
 have h64 : 2 ^ wid t ≤ 2 ^ 64 := Nat.pow_le_pow_right (by decide) hw.2
 have hq : 2 ^ wid t = 2 * 2 ^ (wid t - 1) := by rw [← Nat.pow_succ']; congr 1; omega
 have h3 : 2 ^ (wid t - 1) ≤ normF t v := by
  rcases Nat.lt_or_ge (normF t v) (2 ^ (wid t - 1)) with h4 | h4
  ·unfold topF at h; rw [Nat.div_eq_of_lt h4] at h; simp at h
  ·exact h4
 have h63 : 2 ^ (wid t - 1) ≤ 2 ^ 63 := Nat.pow_le_pow_right (by decide) (by omega)
 have hp : (2 : Int) ^ wid t = ((2 ^ wid t : Nat) : Int) := by simp
 rw [or_top _ _ hw.2 hl, wrap_toI _ (by omega)]
 unfold intF toI
 rw [h0, h1, h, if_pos (by rfl), if_neg (by omega), hp]
 omega
theorem top_div {t : Ty} {n : Nat} (h : topF t n = true) : ((n : Int) / ((2 ^ (wid t - 1) : Nat) : Int) == 1) = true := by
 unfold topF at h
 rw [decide_eq_true_iff] at h
 rw [← Int.natCast_ediv, h]; rfl
theorem top_ndiv {t : Ty} {n : Nat} (h : ¬ topF t n = true) : ((n : Int) / ((2 ^ (wid t - 1) : Nat) : Int) == 1) = false := by
 unfold topF at h
 rw [decide_eq_true_iff] at h
 rw [← Int.natCast_ediv, beq_eq_false_iff_ne]
 omega
set_option maxRecDepth 100000 in
theorem Int_calls (w : World) (t : Ty) (v : Nat) (hv : v < 2 ^ 64) (hT : Tabs w) :
  Calls Tryz.prog 61 #[.agg #[.int .i64 t.1, .bool t.2], .int .u64 v] w fun e w' => e = .returned (.int .i64 (intF t v)) ∧ Frm (fun _ => False) w w' := by
 have HT := Lib.hid hT
 have HN := Lib.hid (Norm_calls (w.alloc (.cells #[.int .i64 t.1, .bool t.2] 23)) t v hv (hT.frm0 (frm_alloc _ _)))
 have hn64 := norm_lt64 t v
 clear hT hv
 by_cases hs : t.2 = true
 case neg =>
  have hi := Lib.hid (int_plain (t := t) (v := v) (by simp [hs]))
  have hwr := Lib.hid (wrap_toI _ hn64)
  obtain ⟨x, s⟩ := t
  simp only [Bool.not_eq_true] at hs
  subst hs
  generalize normF (x, false) v = n at *
  clear hn64
  go_enter Tryz.func61, Tryz.ntmps61
  go_wp2_with fail
  refine HN.out.mono ?_
  rintro e w1 ⟨rfl, hf1⟩
  obtain ⟨hb0, hb1⟩ := box_cells hf1
  have HF := Lib.hid (frm_then (frm_alloc _ _) hf1)
  clear hf1
  go_wp2
  go_ret
  exact ⟨congrArg (fun x => Ending.returned (.int .i64 x)) (hwr.out.trans hi.out.symm), HF.out⟩
 case pos =>
  by_cases hr : rightF t = true
  case neg =>
   have hi := Lib.hid (int_plain (t := t) (v := v) (by simp [hr]))
   have hn0 : normF t v = 0 := by unfold normF; rw [if_neg hr]
   rw [hn0] at HN
   obtain ⟨x, s⟩ := t
   simp only at hs
   subst hs
   have HR := Lib.hid hr
   clear hn64 hr
   have Hn0 := Lib.hid hn0
   clear hn0
   go_enter Tryz.func61, Tryz.ntmps61
   go_wp2_with fail
   refine HN.out.mono ?_
   rintro e w1 ⟨rfl, hf1⟩
   obtain ⟨hb0, hb1⟩ := box_cells hf1
   have HF := Lib.hid (frm_then (frm_alloc _ _) hf1)
   clear hf1
   go_wp2_with fail
   refine (Right_calls _ (x, true) (HT.out.frm0 HF.out)).mono ?_
   rw [show rightF (x, true) = false by simpa using HR.out]
   rintro e w2 ⟨rfl, hf2⟩
   have HF2 := Lib.hid (frm_then HF.out hf2)
   clear hf2
   go_wp2
   go_ret
   exact ⟨by rw [hi.out, Hn0.out]; rfl, HF2.out⟩
  case pos =>
   have HRc := fun W hW => Right_calls W t hW
   rw [hr] at HRc
   by_cases htop : topF t (normF t v) = true
   ·have hi := Lib.hid (int_top hs hr htop)
    have HM := fun W => mask_calls W t hr
    have hdiv := top_div htop
    rcases right_iff.1 hr with rfl | rfl | rfl | rfl | rfl | rfl | rfl | rfl | rfl
    iterate 5 cases hs
    all_goals
     generalize normF _ v = n at *
     first | rw [show ((2 ^ (wid (8, true) - 1) : Nat) : Int) = 128 from rfl] at hdiv | rw [show ((2 ^ (wid (16, true) - 1) : Nat) : Int) = 32768 from rfl] at hdiv | rw [show ((2 ^ (wid (32, true) - 1) : Nat) : Int) = 2147483648 from rfl] at hdiv | rw [show ((2 ^ (wid (64, true) - 1) : Nat) : Int) = 9223372036854775808 from rfl] at hdiv
     have HMM := Lib.hid HM
     have HRR := Lib.hid HRc
     have Hn := Lib.hid hn64
     clear hs hr htop HM HRc hn64
     go_enter Tryz.func61, Tryz.ntmps61
     go_wp2_with fail
     refine HN.out.mono ?_
     rintro e w1 ⟨rfl, hf1⟩
     obtain ⟨hb0, hb1⟩ := box_cells hf1
     have HF := Lib.hid (frm_then (frm_alloc _ _) hf1)
     clear hf1
     go_wp2_with fail
     refine (HRR.out _ (HT.out.frm0 HF.out)).mono ?_
     rintro e w2 ⟨rfl, hf2⟩
     have hc0 := frm_cell hf2 hb0
     have hc1 := frm_cell hf2 hb1
     have HF2 := Lib.hid (frm_then HF.out hf2)
     clear hf2
     go_wp2_with fail
     refine (HMM.out _).mono ?_
     rintro e w3 ⟨rfl, hf3⟩
     have HF3 := Lib.hid (frm_then HF2.out hf3)
     clear hf3
     go_wp2
     go_ret
     refine ⟨congrArg (fun x => Ending.returned (.int .i64 x)) ?_, HF3.out⟩
     rw [hi.out]
     first | rw [show bits BinOp.xor IntKind.u64 IntKind.u64.max ((maskF (8, true) : Nat) : Int) = ((2 ^ 64 - 2 ^ wid (8, true) : Nat) : Int) from by kernel_rfl, bits_or_u64 _ _ Hn.out (by decide)] | rw [show bits BinOp.xor IntKind.u64 IntKind.u64.max ((maskF (16, true) : Nat) : Int) = ((2 ^ 64 - 2 ^ wid (16, true) : Nat) : Int) from by kernel_rfl, bits_or_u64 _ _ Hn.out (by decide)] | rw [show bits BinOp.xor IntKind.u64 IntKind.u64.max ((maskF (32, true) : Nat) : Int) = ((2 ^ 64 - 2 ^ wid (32, true) : Nat) : Int) from by kernel_rfl, bits_or_u64 _ _ Hn.out (by decide)] | rw [show bits BinOp.xor IntKind.u64 IntKind.u64.max ((maskF (64, true) : Nat) : Int) = ((2 ^ 64 - 2 ^ wid (64, true) : Nat) : Int) from by kernel_rfl, bits_or_u64 _ _ Hn.out (by decide)]
   ·have hi := Lib.hid (int_plain (t := t) (v := v) (by simp [htop]))
    have hdiv := top_ndiv htop
    have hwr := Lib.hid (wrap_toI _ hn64)
    rcases right_iff.1 hr with rfl | rfl | rfl | rfl | rfl | rfl | rfl | rfl | rfl
    iterate 5 cases hs
    all_goals
     generalize normF _ v = n at *
     first | rw [show ((2 ^ (wid (8, true) - 1) : Nat) : Int) = 128 from rfl] at hdiv | rw [show ((2 ^ (wid (16, true) - 1) : Nat) : Int) = 32768 from rfl] at hdiv | rw [show ((2 ^ (wid (32, true) - 1) : Nat) : Int) = 2147483648 from rfl] at hdiv | rw [show ((2 ^ (wid (64, true) - 1) : Nat) : Int) = 9223372036854775808 from rfl] at hdiv
     have HRR := Lib.hid HRc
     have Hn := Lib.hid hn64
     clear hs hr htop HRc hn64
     go_enter Tryz.func61, Tryz.ntmps61
     go_wp2_with fail
     refine HN.out.mono ?_
     rintro e w1 ⟨rfl, hf1⟩
     obtain ⟨hb0, hb1⟩ := box_cells hf1
     have HF := Lib.hid (frm_then (frm_alloc _ _) hf1)
     clear hf1
     go_wp2_with fail
     refine (HRR.out _ (HT.out.frm0 HF.out)).mono ?_
     rintro e w2 ⟨rfl, hf2⟩
     have hc0 := frm_cell hf2 hb0
     have hc1 := frm_cell hf2 hb1
     have HF2 := Lib.hid (frm_then HF.out hf2)
     clear hf2
     go_wp2
     go_ret
     exact ⟨congrArg (fun x => Ending.returned (.int .i64 x)) (hwr.out.trans hi.out.symm), HF2.out⟩
end TmW
end Go.Proofs.YtbbajekecppioaaGreatDoor
