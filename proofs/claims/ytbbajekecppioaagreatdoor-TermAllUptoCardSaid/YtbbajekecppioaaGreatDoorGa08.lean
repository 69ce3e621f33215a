/- Decimal numerals: strconv.FormatUint and Itoa at base 10. -/
import Derived.Test.YtbbajekecppioaaGreatDoorGa06
import Derived.Test.YtbbajekecppioaaGreatDoorGa07
import Derived.Lib.Walk
import Derived.Lib.ItoaMem
import Derived.Lib.AppendIntMem
import Derived.BigCall
import Derived.BigGuard
import Derived.Test.YtbbajekecppioaaGreatDoorGa02
import Derived.Test.YtbbajekecppioaaGreatDoorGa01
import Derived.Lib.ItoaNum
import Derived.Test.YtbbajekecppioaaGreatDoorChecked
import Derived.BigQuiet
import Derived.Lib.Hide
set_option linter.unusedSimpArgs false
set_option linter.unusedVariables false
namespace Go.Proofs.YtbbajekecppioaaGreatDoor
open Go.RowKit Go.Mem Go.Wd Go.Sort
namespace TmW
/-- The tables that are read. -/
structure Env (w : World) : Prop where
  tabs : Tabs w
  pow : Lib.TabIs Tryz.prog w "internal/strconv.uint64pow10" .u64 Lib.pow10Tab
theorem pow_at : Tryz.prog.globalNamed "internal/strconv.uint64pow10" = some 1 := by kernel_rfl
theorem tabIs_frm {w w' : World} (h : Lib.TabIs Tryz.prog w "internal/strconv.uint64pow10" .u64 Lib.pow10Tab) (hb : w'.heap[1]? = w.heap[1]?) : Lib.TabIs Tryz.prog w' "internal/strconv.uint64pow10" .u64 Lib.pow10Tab := by
  unfold Lib.TabIs World.var? at *
  rw [pow_at] at *
  simp only [Option.bind_some] at *
  rw [hb]
  exact h
theorem tabIs_lt {w : World} (h : Lib.TabIs Tryz.prog w "internal/strconv.uint64pow10" .u64 Lib.pow10Tab) : 1 < w.heap.size := by
  unfold Lib.TabIs World.var? at h
  rw [pow_at] at h
  simp only [Option.bind_some] at h
  rcases Nat.lt_or_ge 1 w.heap.size with h' | h'
  · exact h'
  · rw [Array.getElem?_eq_none h'] at h; simp at h
theorem Env.frm {S : Nat → Prop} {w w' : World} (h : Env w) (hf : Frm S w w') (h0 : ¬ S 0) (h1 : ¬ S 1) : Env w' :=
  ⟨h.tabs.frm hf h0, tabIs_frm h.pow (hf.block 1 (tabIs_lt h.pow) h1)⟩
theorem Env.frm0 {w w' : World} (h : Env w) (hf : Frm (fun _ => False) w w') : Env w' := h.frm hf id id
theorem frm_grow (w : World) (os : Array Obj) : Frm (fun _ => False) w (grow w os) :=
  ⟨rfl, rfl, rfl, by simp [grow], fun k hk _ => by simp [grow, Array.getElem?_append_left hk]⟩
theorem frm_growN (w : World) (k : Nat) (os : Array Obj) : Frm (fun _ => False) w (grow (w.drewN k) os) := frm_then ((Frm.refl _ _).drewN k) (frm_grow _ _)
theorem Itoa_calls (w : World) (n : Int) (h0 : -9223372036854775808 ≤ n) (h1 : n ≤ 9223372036854775807) (hE : Env w) :
    Calls Tryz.prog 48 #[.int .i64 n] w fun e w' => e = .returned (.string ⟨(Lib.itoa n).toArray⟩) ∧ Frm (fun _ => False) w w' :=
  (Tryz.strconv_Itoa n h0 h1 w hE.pow).mono fun e w' ⟨he, k, os, hw⟩ => ⟨he, by rw [hw]; exact frm_growN _ _ _⟩
set_option maxHeartbeats 3200000 in
set_option maxRecDepth 100000 in
theorem FmtU_calls (w : World) (u : Nat) (hu : u < 18446744073709551616) (hE : Env w) :
    Calls Tryz.prog 75 #[.int .u64 u, .int .i64 10] w fun e w' => e = .returned (.string ⟨(Lib.decDigits u).toArray⟩) ∧ Frm (fun _ => False) w w' := by
  by_cases hs : u < 100
  · have d : decide ((u : Int) < 100) = true := by simp; omega
    have HC := Lib.hid (Tryz.internal_strconv_small u hs w)
    clear hE
    go_enter Tryz.func75, Tryz.ntmps75
    go_wp2_with fail
    (with_reducible refine HC.out.mono ?_)
    rintro e w' ⟨rfl, rfl⟩
    go_wp2
    go_ret
    exact ⟨rfl, Frm.refl _ _⟩
  · have hu1 : 1 ≤ u := by omega
    have hnd20 : Lib.nDigits u ≤ 20 := by have := Lib.numDigits_eq u hu1 hu; split at this <;> omega
    have hb24 : Lib.nDigits u ≤ 24 := by omega
    have d : decide ((u : Int) < 100) = false := by simp; omega
    have hal : Tryz.prog.arrayLen 129 = 24 := by kernel_rfl
    have hsl1 : ∀ W, (Instr.sliceAt 129 (.pointer (some ⟨w.heap.size, 0, none⟩)) none (some (.int .i64 (Lib.nDigits u : Int))) none).run Tryz.prog W = .ok (.slice (some ⟨w.heap.size, 0, none⟩) (Lib.nDigits u) 24) W := fun W => by
      rw [run_sliceAt_array_h W 129 ⟨w.heap.size, 0, none⟩ (by simp [Program.arrayLen, Program.elem, Tryz.underlying129]) .i64 (Lib.nDigits u : Int) (by omega) (by rw [hal]; omega)]
      go_simp
    have hH0 := Lib.holds_zero0 w 129 (Lib.nDigits u) (by omega)
    have hfmt := Tryz.internal_strconv_formatBase10 w.heap.size 0 24 u (Array.replicate (Lib.nDigits u) 0) (w.alloc (.cells Lib.zeros24 129)) hH0 (by rw [Array.size_replicate]; exact Lib.lt_pow_nDigits u) hu (by rw [Array.size_replicate]; omega)
    rw [Array.size_replicate] at hfmt
    have HH0 := Lib.hid hH0
    have HND := Lib.hid (Tryz.internal_strconv_numDigits u hu1 hu (w.alloc (.cells Lib.zeros24 129)) (Lib.tabIs_alloc hE.pow _))
    have HFM := Lib.hid hfmt
    clear hH0 hal hfmt hs hE
    go_enter Tryz.func75, Tryz.ntmps75
    go_wp2_with fail
    refine HND.out.mono ?_
    rintro e w' ⟨rfl, rfl⟩
    go_wp2_with fail
    refine HFM.out.mono ?_
    rintro e w' ⟨rfl, k, v', dk, rfl, hF⟩
    have hcv : (convert 132 9 (.slice (some ⟨w.heap.size, 0, none⟩) (Lib.nDigits u) 24)).run Tryz.prog ((putRow (fun (b : UInt8) => Value.int .u8 (b.toNat : Int)) (w.alloc (.cells Lib.zeros24 129)) w.heap.size 0 dk).drewN k) = .ok (.string ⟨(Lib.decDigits u).toArray⟩) ((putRow (fun (b : UInt8) => Value.int .u8 (b.toNat : Int)) (w.alloc (.cells Lib.zeros24 129)) w.heap.size 0 dk).drewN k) := by
      have h := run_convert_bytes_back (P := Tryz.prog) ((putRow (fun (b : UInt8) => Value.int .u8 (b.toNat : Int)) (w.alloc (.cells Lib.zeros24 129)) w.heap.size 0 dk).drewN k) 132 9 5 ⟨w.heap.size, 0, none⟩ 24 (Lib.decDigits u) Tryz.underlying132 Tryz.underlying5 Tryz.underlying9 (fun j hj => by
        rw [Lib.row_is_numeral hF j hj, Lib.add_plain, World.cell?_drewN]
        exact cell?_putRow (fun (b : UInt8) => Value.int .u8 (b.toNat : Int)) _ w.heap.size 0 _ dk HH0.out (by rw [hF.size, Array.size_replicate]) j (by rw [hF.size]; rw [Lib.decDigits_length] at hj; exact hj))
      rw [Lib.decDigits_length] at h
      exact h
    go_wp2
    go_ret
    obtain ⟨os', _, eo⟩ := putRow_grow_new (fun (b : UInt8) => Value.int .u8 (b.toNat : Int)) w #[(.cells Lib.zeros24 129)] w.heap.size 0 dk (Nat.le_refl _)
    refine ⟨rfl, ?_⟩
    rw [alloc_eq_grow, eo]
    exact (frm_grow _ _).drewN _
set_option maxRecDepth 100000 in
theorem FormatUint_calls (w : World) (u : Nat) (hu : u < 18446744073709551616) (hE : Env w) :
    Calls Tryz.prog 47 #[.int .u64 u, .int .i64 10] w fun e w' => e = .returned (.string ⟨(Lib.decDigits u).toArray⟩) ∧ Frm (fun _ => False) w w' := by
  have HC := Lib.hid (FmtU_calls w u hu hE)
  clear hu hE
  go_enter Tryz.func47, Tryz.ntmps47
  go_wp2_with fail
  refine HC.out.mono ?_
  rintro e w1 ⟨rfl, hf1⟩
  go_wp2
  go_ret
  exact ⟨rfl, hf1⟩
end TmW
end Go.Proofs.YtbbajekecppioaaGreatDoor
/- A pool of terms as plain data: nodes, keys; what its calls make. No program in sight. -/
namespace Go.Tp
open Go.Wd Go.Mem
structure TNode where
  op : ByteArray
  t : Ty
  num : Nat
  v : Int
  kids : List Int
structure TPool where
  l : List TNode
  find : List (ByteArray × Int)
  types : List (Int × Ty)
abbrev colon : ByteArray := ⟨#[58]⟩
def headK (n : TNode) : ByteArray := n.op ++ colon ++ nameF n.t ++ colon ++ ⟨(Lib.decDigits n.num).toArray⟩ ++ colon ++ ⟨(Lib.itoa n.v).toArray⟩
def kidsK (s : ByteArray) (l : List Int) : ByteArray := l.foldl (fun s k => s ++ (colon ++ ⟨(Lib.itoa k).toArray⟩)) s
def keyF (n : TNode) : ByteArray := kidsK (headK n) n.kids
theorem kidsK_snoc (s : ByteArray) (l : List Int) (k : Int) : kidsK s (l ++ [k]) = kidsK s l ++ (colon ++ ⟨(Lib.itoa k).toArray⟩) := by simp [kidsK]
theorem dec_size (u : Nat) (hu : u < 2 ^ 64) : (⟨(Lib.decDigits u).toArray⟩ : ByteArray).size ≤ 20 := by
  have e : (⟨(Lib.decDigits u).toArray⟩ : ByteArray).size = (Lib.decDigits u).length := by simp [ByteArray.size]
  rw [e, Lib.decDigits_length]
  by_cases h : u = 0
  · subst h; rw [Lib.nDigits_small (by omega)]; omega
  · have := Lib.numDigits_eq u (by omega) hu
    split at this <;> omega
theorem itoa_size (n : Int) (h0 : -9223372036854775808 ≤ n) (h1 : n ≤ 9223372036854775807) : (⟨(Lib.itoa n).toArray⟩ : ByteArray).size ≤ 21 := by
  have e : (⟨(Lib.itoa n).toArray⟩ : ByteArray).size = (Lib.itoa n).length := by simp [ByteArray.size]
  rw [e]
  unfold Lib.itoa
  split
  · have := dec_size n.natAbs (by omega)
    simp only [ByteArray.size, List.size_toArray] at this
    simp only [List.length_cons]
    omega
  · have := dec_size n.toNat (by omega)
    simp only [ByteArray.size, List.size_toArray] at this
    omega
theorem name_size (t : Ty) : (nameF t).size ≤ 4 := by
  unfold nameF
  simp only [nameFrom, tyOf]
  repeat' split
  all_goals decide
theorem head_size (n : TNode) (hn : n.num < 2 ^ 64) (h0 : -9223372036854775808 ≤ n.v) (h1 : n.v ≤ 9223372036854775807) : (headK n).size ≤ n.op.size + 100 := by
  have a := name_size n.t
  have b := dec_size n.num hn
  have c := itoa_size n.v h0 h1
  have d : colon.size = 1 := rfl
  unfold headK
  simp only [ByteArray.size_append]
  omega
theorem kidsK_size : ∀ (l : List Int) (s : ByteArray), (∀ k ∈ l, -9223372036854775808 ≤ k ∧ k ≤ 9223372036854775807) → (kidsK s l).size ≤ s.size + 22 * l.length
  | [], s, _ => by simp [kidsK]
  | k :: l, s, h => by
    have hk := h k (by simp)
    have ih := kidsK_size l (s ++ (colon ++ ⟨(Lib.itoa k).toArray⟩)) (fun x hx => h x (by simp [hx]))
    have c := itoa_size k hk.1 hk.2
    have d : colon.size = 1 := rfl
    have e : kidsK s (k :: l) = kidsK (s ++ (colon ++ ⟨(Lib.itoa k).toArray⟩)) l := rfl
    rw [e]
    simp only [ByteArray.size_append, List.length_cons] at *
    omega
def empty : TPool := ⟨[], [], []⟩
/-- A node's term: the one that is there, or a new one. -/
def nodeF (s : TPool) (n : TNode) : Int × TPool :=
  match mget s.find (keyF n) with
  | some f => (f, s)
  | none => ((s.l.length : Int), { s with l := s.l ++ [n], find := mput s.find (keyF n) (s.l.length : Int) })
def nth (l : List TNode) (i : Int) : Option TNode := if 0 ≤ i then l[i.toNat]? else none
end Go.Tp
/- A node's key, walked. -/
namespace Go.Proofs.YtbbajekecppioaaGreatDoor
open Go.RowKit Go.Mem Go.Wd Go.Tp
namespace TmW
def i64v (n : Int) : Value := .int .i64 n
def nodeVal (n : TNode) (kv : Value) : Value := .agg #[.string n.op, .int .i64 n.t.1, .bool n.t.2, .int .u64 n.num, .int .i64 n.v, kv]
def NBox (w : World) (b : Nat) (n : TNode) (kv : Value) : Prop := w.heap[b]? = some (.cells #[.string n.op, .int .i64 n.t.1, .bool n.t.2, .int .u64 n.num, .int .i64 n.v, kv] 76)
theorem NBox.cells {w : World} {b : Nat} {n : TNode} {kv : Value} (h : NBox w b n kv) :
    w.cell? ⟨b, 0, none⟩ = some (.string n.op) ∧ w.cell? ⟨b, 1, none⟩ = some (.int .i64 n.t.1) ∧ w.cell? ⟨b, 2, none⟩ = some (.bool n.t.2) ∧ w.cell? ⟨b, 3, none⟩ = some (.int .u64 n.num) ∧ w.cell? ⟨b, 4, none⟩ = some (.int .i64 n.v) ∧ w.cell? ⟨b, 5, none⟩ = some kv :=
  ⟨blk_cell h 0, blk_cell h 1, blk_cell h 2, blk_cell h 3, blk_cell h 4, blk_cell h 5⟩
theorem NBox.frm {S : Nat → Prop} {w w' : World} {b : Nat} {n : TNode} {kv : Value} (h : NBox w b n kv) (hf : Frm S w w') (hS : ¬ S b) : NBox w' b n kv := blk_frm h hf hS
theorem NBox.frm0 {w w' : World} {b : Nat} {n : TNode} {kv : Value} (h : NBox w b n kv) (hf : Frm (fun _ => False) w w') : NBox w' b n kv := blk_frm h hf id
theorem NBox.frmD {w w' : World} {b : Nat} {n : TNode} {kv : Value} (h : NBox w b n kv) (hf : Frm (fun _ => False) w.drew w') : NBox w' b n kv := NBox.frm0 (w := w.drew) h hf
def is64 (n : Int) : Prop := -9223372036854775808 ≤ n ∧ n ≤ 9223372036854775807
theorem NBox.new (w : World) (n : TNode) (kv : Value) : NBox (w.alloc (.cells #[.string n.op, .int .i64 n.t.1, .bool n.t.2, .int .u64 n.num, .int .i64 n.v, kv] 76)) w.heap.size n kv := blk_new _
theorem sees_slice {α : Type} {w : World} {enc : α → Value} {v : Value} {xs : List α} (h : Sees w enc v xs) : ∃ A c, v = .slice A xs.length c ∧ ∀ i x, xs[i]? = some x → ∃ g o, A = some ⟨g, o, none⟩ ∧ w.cell? ⟨g, o + i, none⟩ = some (enc x) := by
  rcases h with ⟨rfl, rfl⟩ | ⟨g, o, cap, rfl, _, _, hc⟩
  · exact ⟨none, 0, rfl, fun i x h => by simp at h⟩
  · exact ⟨some ⟨g, o, none⟩, cap, rfl, fun i x h => ⟨g, o, rfl, hc i x h⟩⟩
theorem addS (a b c : ByteArray) (e : a ++ b = c) (h : a.size + b.size ≤ 9223372036854775807) (W : World) : (Op.stringOp .add a b).run Tryz.prog W = .ok (.string c) W := by
  rw [← e]; exact run_string_add_sum W a b h
set_option maxRecDepth 100000 in
set_option maxHeartbeats 2000000 in
theorem key_calls (w : World) (n : TNode) (kv : Value) (hE : Env w) (hop : n.op.size ≤ 140737488355328) (hn : n.num < 2 ^ 64) (hv : is64 n.v) (hk : ∀ k ∈ n.kids, is64 k) (hkl : n.kids.length ≤ 1000) (hs : Sees w (Value.int .i64) kv n.kids) :
    Calls Tryz.prog 69 #[.agg #[.string n.op, .int .i64 n.t.1, .bool n.t.2, .int .u64 n.num, .int .i64 n.v, kv]] w fun e w' => e = .returned (.string (keyF n)) ∧ Frm (fun _ => False) w w' := by
  have HN := Lib.hid (fun w1 (hf : Frm (fun _ => False) w w1) => Name_calls w1 n.t (hE.frm0 hf).tabs)
  have HU := Lib.hid (fun w1 (hf : Frm (fun _ => False) w w1) => FormatUint_calls w1 n.num hn (hE.frm0 hf))
  have HI := Lib.hid (fun w1 (hf : Frm (fun _ => False) w w1) => Itoa_calls w1 n.v hv.1 hv.2 (hE.frm0 hf))
  have HK := Lib.hid (fun w1 k (hk' : k ∈ n.kids) (hf : Frm (fun _ => False) w w1) => Itoa_calls w1 k (hk k hk').1 (hk k hk').2 (hE.frm0 hf))
  have hF := Lib.hid (frm_alloc w (.cells #[.string n.op, .int .i64 n.t.1, .bool n.t.2, .int .u64 n.num, .int .i64 n.v, kv] 76))
  have HB0 := Lib.hid (NBox.new w n kv)
  obtain ⟨A, cap, rfl, hcs⟩ := sees_slice hs
  have HS := Lib.hid hs
  have hlen : n.kids.length ≤ 1000 := hkl
  have hs1 := name_size n.t
  have hs2 := dec_size n.num hn
  have hs3 := itoa_size n.v hv.1 hv.2
  have hs4 := head_size n hn hv.1 hv.2
  have hc : colon.size = 1 := rfl
  have k1 := addS n.op colon _ rfl (by omega)
  have k2 := addS (n.op ++ colon) (nameF n.t) _ rfl (by simp only [ByteArray.size_append]; omega)
  have k3 := addS (n.op ++ colon ++ nameF n.t) colon _ rfl (by simp only [ByteArray.size_append]; omega)
  have k4 := addS (n.op ++ colon ++ nameF n.t ++ colon) ⟨(Lib.decDigits n.num).toArray⟩ _ rfl (by simp only [ByteArray.size_append]; omega)
  have k5 := addS (n.op ++ colon ++ nameF n.t ++ colon ++ ⟨(Lib.decDigits n.num).toArray⟩) colon _ rfl (by simp only [ByteArray.size_append]; omega)
  have k6 := addS (n.op ++ colon ++ nameF n.t ++ colon ++ ⟨(Lib.decDigits n.num).toArray⟩ ++ colon) ⟨(Lib.itoa n.v).toArray⟩ (headK n) rfl (by simp only [ByteArray.size_append]; omega)
  have HKB := Lib.hid (fun j => show (kidsK (headK n) (n.kids.take j)).size ≤ 140737488355328 + 23000 from by
    have h1 := kidsK_size (n.kids.take j) (headK n) (fun x hx => hk x (List.mem_of_mem_take hx))
    have h2 : (n.kids.take j).length ≤ 1000 := by rw [List.length_take]; omega
    omega)
  have HKS := Lib.hid (fun k (hk' : k ∈ n.kids) => itoa_size k (hk k hk').1 (hk k hk').2)
  clear hE hop hn hv hk hs hs1 hs2 hs3 hs4 hc hcs hkl
  go_enter Tryz.func69, Tryz.ntmps69
  go_wp2
  obtain ⟨a0, a1, a2, a3, a4, a5⟩ := HB0.out.cells
  refine Plan.wp_region_plan [0, 1, 3, 0, 8, 24, 63, 127, 0, 256, 824, 2047, 4095, 0, 8192, 26424, 65535, 131071] [.mk [0, 1, 2, 3, 4, 8, 9, 13, 14] 5 [0, 1, 2, 8, 9, 13, 14], .mk [6, 7] 10 [0, 1, 2, 13, 14, 6, 7], .mk [11, 12] 15 [0, 1, 2, 6, 7, 11, 12]] [16, 17] (by kernel_rfl) (by kernel_rfl) ?_
  simp only [Plan.wayOf, Plan.pickAll, List.getElem?_cons_zero, List.getElem?_cons_succ, List.getD_eq_getElem?_getD, Option.getD_some]
  refine Plan.wpWay_seg ?_
  repeat go_big_quiet_step (fail)
  refine wpQuiet_nil ?_; refine Plan.wpWay_act ?_
  go_wp2_with fail
  refine (HN.out _ hF.out.drew).mono ?_
  rintro e w1 ⟨rfl, hf1⟩
  have HB1 := Lib.hid (HB0.out.frmD hf1)
  obtain ⟨b0, b1, b2, b3, b4, b5⟩ := HB1.out.cells
  have HF1 := Lib.hid (frm_then hF.out.drew hf1)
  clear hf1
  go_wp2_with fail
  refine And.intro ?_ ?_; focus ((iterate 7 (refine Plan.again_cons ?_ ?_; focus (go_big_quiet_step (fail); exact wpQuiet_nil rfl))); exact Plan.again_nil)
  refine Plan.wpWay_seg ?_
  repeat go_big_quiet_step (fail)
  refine wpQuiet_nil ?_; refine Plan.wpWay_act ?_
  go_wp2_with fail
  refine (HU.out _ HF1.out).mono ?_
  rintro e w2 ⟨rfl, hf2⟩
  have HB2 := Lib.hid (HB1.out.frm0 hf2)
  obtain ⟨c0, c1, c2, c3, c4, c5⟩ := HB2.out.cells
  have HF2 := Lib.hid (frm_then HF1.out hf2)
  clear hf2
  go_wp2_with fail
  refine And.intro ?_ ?_; focus ((iterate 7 (refine Plan.again_cons ?_ ?_; focus (go_big_quiet_step (fail); exact wpQuiet_nil rfl))); exact Plan.again_nil)
  refine Plan.wpWay_seg ?_
  repeat go_big_quiet_step (fail)
  refine wpQuiet_nil ?_; refine Plan.wpWay_act ?_
  go_wp2_with fail
  refine (HI.out _ HF2.out).mono ?_
  rintro e w3 ⟨rfl, hf3⟩
  have HB3 := Lib.hid (HB2.out.frm0 hf3)
  obtain ⟨d0, d1, d2, d3, d4, d5⟩ := HB3.out.cells
  have HF3 := Lib.hid (frm_then HF2.out hf3)
  clear hf3
  go_wp2_with fail
  refine And.intro ?_ ?_; focus ((iterate 7 (refine Plan.again_cons ?_ ?_; focus (go_big_quiet_step (fail); exact wpQuiet_nil rfl))); exact Plan.again_nil)
  refine Plan.wpWay_last ?_
  repeat go_big_quiet_step (fail)
  refine wpQuiet_nil ?_; refine NoPanic.normal ?_
  go_wp2
  clear k1 k2 k3 k4 k5 k6
  go_loopw [3, 26] (fun v3 v26 w' => ∃ k : Nat, k ≤ n.kids.length ∧ v26 = .int .i64 k ∧ v3 = .string (kidsK (headK n) (n.kids.take k)) ∧ Hid (Frm (fun _ => False) w w')) (fun _ v26 _ => n.kids.length - (intOf v26).toNat)
  case atStart => exact ⟨0, Nat.zero_le _, rfl, rfl, HF3⟩
  case round =>
    obtain ⟨k, hk, rfl, rfl, HFr⟩ := hrel
    by_cases hlt : k < n.kids.length
    · have hltI : (k : Int) < (n.kids.length : Int) := by omega
      obtain ⟨x, hx⟩ : ∃ x, n.kids[k]? = some x := ⟨_, List.getElem?_eq_getElem hlt⟩
      have hmem : x ∈ n.kids := List.mem_of_getElem? hx
      obtain ⟨A', c', e', hd⟩ := sees_slice (HS.out.frm HFr.out fun _ _ _ => id)
      cases e'
      obtain ⟨g, o, rfl, hcell⟩ := hd k x hx
      have hsz := HKB.out k
      have hszx := HKS.out x hmem
      have htk : n.kids.take (k + 1) = n.kids.take k ++ [x] := by rw [List.take_add_one, hx]; rfl
      have q1 := addS colon ⟨(Lib.itoa x).toArray⟩ _ rfl (by have : colon.size = 1 := rfl; omega)
      have q2 := addS (kidsK (headK n) (n.kids.take k)) (colon ++ ⟨(Lib.itoa x).toArray⟩) (kidsK (headK n) (n.kids.take (k + 1))) (by rw [htk, kidsK_snoc]) (by have : colon.size = 1 := rfl; simp only [ByteArray.size_append]; omega)
      have HC := Lib.hid (HK.out wr x hmem HFr.out)
      clear hx hmem hd hsz hszx htk
      go_wp2_with fail
      refine HC.out.mono ?_
      rintro e w4 ⟨rfl, hf4⟩
      have HF4 := Lib.hid (frm_then HFr.out hf4)
      clear hf4
      go_wp2
      go_roundw
      case rel => exact ⟨k + 1, by omega, by go_num, rfl, HF4⟩
      case measure => simp [intOf]; omega
    · have hkk : n.kids.take k = n.kids := List.take_of_length_le (by omega)
      have HKK := Lib.hid hkk
      have hltI : ¬ (k : Int) < (n.kids.length : Int) := by omega
      clear hkk
      go_wp2
      go_ret
      exact ⟨by rw [HKK.out]; rfl, HFr.out⟩
end TmW
end Go.Proofs.YtbbajekecppioaaGreatDoor
/- Package slices at whole numbers, walked: Index, Contains, IndexFunc, ContainsFunc. -/
namespace Go.Proofs.YtbbajekecppioaaGreatDoor
open Go.RowKit Go.Mem
namespace Sl

/-- The first index at which q is true; below 0: none. -/
def idx {α : Type} (q : α → Bool) (xs : List α) : Int := match xs.findIdx? q with | some i => i | none => -1
theorem idx_any {α : Type} (q : α → Bool) (xs : List α) : decide (idx q xs ≥ 0) = xs.any q := by
  unfold idx
  cases h : xs.findIdx? q with
  | none =>
    have := List.findIdx?_eq_none_iff.1 h
    simp only [ge_iff_le, show ¬ ((0 : Int) ≤ -1) from by decide, decide_false]
    symm
    simpa using this
  | some i =>
    have := (List.findIdx?_eq_some_iff_findIdx_eq.1 h)
    simp only [ge_iff_le, Int.natCast_nonneg, decide_true]
    symm
    rw [List.any_eq_true]
    have h2 := List.findIdx?_eq_some_iff_getElem.1 h
    obtain ⟨hi, hq, _⟩ := h2
    exact ⟨xs[i], List.getElem_mem hi, hq⟩
theorem idx_hit {α : Type} {q : α → Bool} {xs : List α} {k : Nat} {x : α} (hx : xs[k]? = some x) (hq : q x = true) (hb : ∀ j y, j < k → xs[j]? = some y → q y = false) : idx q xs = k := by
  have hk := (List.getElem?_eq_some_iff.1 hx)
  obtain ⟨hk, rfl⟩ := hk
  have : xs.findIdx? q = some k := List.findIdx?_eq_some_iff_getElem.2 ⟨hk, hq, fun j hj => by have := hb j _ hj (List.getElem?_eq_getElem (by omega)); simp [this]⟩
  unfold idx
  rw [this]
theorem idx_miss {α : Type} {q : α → Bool} {xs : List α} (hb : ∀ j y, j < xs.length → xs[j]? = some y → q y = false) : idx q xs = -1 := by
  have : xs.findIdx? q = none := List.findIdx?_eq_none_iff.2 fun x hx => by
    obtain ⟨i, hi, rfl⟩ := List.getElem_of_mem hx
    exact hb i _ hi (List.getElem?_eq_getElem hi)
  unfold idx
  rw [this]

def Before {α : Type} (q : α → Bool) (xs : List α) (k : Nat) : Prop := ∀ j y, j < k → xs[j]? = some y → q y = false
theorem Before.zero {α : Type} (q : α → Bool) (xs : List α) : Before q xs 0 := fun j y h => by omega
theorem Before.succ {α : Type} {q : α → Bool} {xs : List α} {k : Nat} {x : α} (h : Before q xs k) (hx : xs[k]? = some x) (hq : q x = false) : Before q xs (k + 1) := fun j y hj hy => by
  by_cases e : j = k
  · subst e; rw [hx] at hy; cases hy; exact hq
  · exact h j y (by omega) hy

set_option maxHeartbeats 1000000 in
theorem indexFunc_calls (fid : FuncId) (cap : Array Value) (q : Int → Bool) (v : Value) (xs : List Int) (w : World) (hv : Sees w (Value.int .i64) v xs)
    (hcf : ∀ (x : Int) (w : World), (callFunc fid (#[.int .i64 x] ++ cap)).run Tryz.prog w = .ok (.enter fid (#[.int .i64 x] ++ cap)) w)
    (hq : ∀ x : Int, Calls Tryz.prog fid (#[.int .i64 x] ++ cap) w fun e w' => e = .returned (.bool (q x)) ∧ w = w') :
    Calls Tryz.prog 79 #[v, .func (.func fid) #[] cap] w fun e w' => e = .returned (.int .i64 (idx q xs)) ∧ w = w' := by
  have Hq := Lib.hid hq
  clear hq
  have hlen : (xs.length : Int) ≤ 9223372036854775807 := by have := hv.len; have h : maxLen = 9223372036854775807 := rfl; omega
  obtain ⟨A, c, rfl, hc⟩ : ∃ A c, v = .slice A xs.length c ∧ ∀ i x, xs[i]? = some x → ∃ g o, A = some ⟨g, o, none⟩ ∧ w.cell? ⟨g, o + i, none⟩ = some (.int .i64 x) := by
    rcases hv with ⟨rfl, rfl⟩ | ⟨g, o, c, rfl, _, _, h⟩
    · exact ⟨none, 0, rfl, fun i x h => by simp at h⟩
    · exact ⟨some ⟨g, o, none⟩, c, rfl, fun i x hx => ⟨g, o, rfl, h i x hx⟩⟩
  have Hc := Lib.hid hc
  clear hc hv
  go_enter Tryz.func79, Tryz.ntmps79
  go_wp2
  go_loop [5, 8] (fun _ v8 => ∃ k : Nat, k ≤ xs.length ∧ v8 = .int .i64 k ∧ Before q xs k) (fun _ v8 => xs.length - (intOf v8).toNat)
  case atStart => exact ⟨0, Nat.zero_le _, rfl, .zero _ _⟩
  case round =>
    obtain ⟨k, hk, rfl, hB⟩ := hrel
    by_cases hlt : k < xs.length
    · have hx : xs[k]? = some xs[k] := List.getElem?_eq_getElem hlt
      obtain ⟨g, o, rfl, hcell⟩ := Hc.out k _ hx
      generalize xs[k] = x at *
      have Hx := Lib.hid hx
      clear hx
      have HB := Lib.hid hB
      clear hB
      go_wp2_with fail
      refine (Hq.out x).mono ?_
      cases hqx : q x with
      | true =>
        rintro e w' ⟨rfl, rfl⟩
        have hfin := Lib.hid (idx_hit Hx.out hqx HB.out)
        clear hqx
        go_wp2
        go_ret
        exact ⟨by rw [hfin.out]; rfl, rfl⟩
      | false =>
        rintro e w' ⟨rfl, rfl⟩
        have hfin := Lib.hid (HB.out.succ Hx.out hqx)
        clear hqx
        go_wp2
        go_round
        case rel => exact ⟨k + 1, by omega, by go_num, hfin.out⟩
        case measure => simp [intOf]; omega
    · have hke : k = xs.length := by omega
      have hfin := Lib.hid (idx_miss (q := q) (xs := xs) (by rw [← hke]; exact hB))
      clear hke
      have HB := Lib.hid hB
      clear hB
      go_wp2
      go_ret
      exact ⟨by rw [hfin.out]; rfl, rfl⟩

theorem containsFunc_calls (fid : FuncId) (cap : Array Value) (q : Int → Bool) (v : Value) (xs : List Int) (w : World) (hv : Sees w (Value.int .i64) v xs)
    (hcf : ∀ (x : Int) (w : World), (callFunc fid (#[.int .i64 x] ++ cap)).run Tryz.prog w = .ok (.enter fid (#[.int .i64 x] ++ cap)) w)
    (hq : ∀ x : Int, Calls Tryz.prog fid (#[.int .i64 x] ++ cap) w fun e w' => e = .returned (.bool (q x)) ∧ w = w') :
    Calls Tryz.prog 53 #[v, .func (.func fid) #[] cap] w fun e w' => e = .returned (.bool (xs.any q)) ∧ w = w' := by
  have Hi := Lib.hid (indexFunc_calls fid cap q v xs w hv hcf hq)
  have hfin := Lib.hid (idx_any q xs)
  clear hv hcf hq
  generalize idx q xs = r at *
  go_enter Tryz.func53, Tryz.ntmps53
  go_wp2_with fail
  refine Hi.out.mono ?_
  rintro e w' ⟨rfl, rfl⟩
  go_wp2
  go_ret
  exact ⟨by rw [← hfin.out]; rfl, rfl⟩

end Sl
end Go.Proofs.YtbbajekecppioaaGreatDoor
