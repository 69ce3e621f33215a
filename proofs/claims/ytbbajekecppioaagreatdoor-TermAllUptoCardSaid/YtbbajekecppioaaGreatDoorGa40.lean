/- The pool's Show walked: numbers, variables, operators. -/
import Derived.Test.YtbbajekecppioaaGreatDoorGa39
set_option linter.unusedSimpArgs false
set_option linter.unusedVariables false
namespace Go.Proofs.YtbbajekecppioaaGreatDoor
open Go.RowKit Go.Mem Go.Wd Go.Tp
namespace TmW
abbrev SPost (w : World) (t : ByteArray) (e : Ending) (w' : World) : Prop := e = .returned (.string t) ∧ Frm (fun _ => False) w w'
abbrev sSpace : ByteArray := ⟨#[32]⟩
abbrev sOpen : ByteArray := ⟨#[40]⟩
abbrev sShut : ByteArray := ⟨#[41]⟩
abbrev sV : ByteArray := ⟨#[118]⟩
def showNum (n : TNode) : ByteArray := ⟨(Lib.decDigits n.num).toArray⟩ ++ colon ++ nameF n.t
def showVar (n : TNode) : ByteArray := sV ++ ⟨(Lib.itoa n.v).toArray⟩ ++ colon ++ nameF n.t
def showK (sh : Int → ByteArray) (s : ByteArray) (l : List Int) : ByteArray := l.foldl (fun s k => s ++ (sSpace ++ sh k)) s
theorem showK_snoc (sh : Int → ByteArray) (s : ByteArray) (l : List Int) (k : Int) : showK sh s (l ++ [k]) = showK sh s l ++ (sSpace ++ sh k) := by simp [showK]
theorem showK_size {sh : Int → ByteArray} {m : Nat} : ∀ (l : List Int) (s : ByteArray), (∀ k ∈ l, (sh k).size ≤ m) → (showK sh s l).size ≤ s.size + l.length * (m + 1)
 | [], s, _ => by simp [showK]
 | k :: r, s, h => by
  have h1 := h k (by simp)
  have := showK_size r (s ++ (sSpace ++ sh k)) fun x hx => h x (by simp [hx])
  have e : sSpace.size = 1 := rfl
  simp only [showK, List.foldl_cons] at this ⊢
  simp only [ByteArray.size_append, List.length_cons] at *
  rw [Nat.succ_mul]
  omega
def showOp (sh : Int → ByteArray) (n : TNode) : ByteArray := showK sh (sOpen ++ n.op) n.kids ++ sShut
set_option maxRecDepth 100000 in
set_option maxHeartbeats 1000000 in
theorem show_num {w : World} {own : Nat → Prop} {p : Nat} {s : TPool} (hE : Env w) (hP : PoolAt w own p s) {f : Int} {n : TNode} (hn : nth s.l f = some n) (ho : n.op = sNum) (h64 : n.num < 2 ^ 64) :
  Calls Tryz.prog 24 #[.pointer (some ⟨p, 0, none⟩), .int .i64 f] w (SPost w (showNum n)) := by
 have d1 : (n.op.toList == [110, 117, 109]) = true := by rw [eqS]; exact decide_eq_true ho
 have HU := Lib.hid (fun w1 (hf : Frm (fun _ => False) w w1) => FormatUint_calls w1 n.num h64 (hE.frm0 hf))
 have hs1 := Go.Tp.name_size n.t
 have hs2 := dec_size n.num h64
 have hc : colon.size = 1 := rfl
 have k1 := addS ⟨(Lib.decDigits n.num).toArray⟩ colon _ rfl (by omega)
 have k2 := addS (⟨(Lib.decDigits n.num).toArray⟩ ++ colon) (nameF n.t) (showNum n) rfl (by simp only [ByteArray.size_append]; omega)
 have HH := Lib.hid (has1 hP f w.heap.size rfl)
 rw [nth_in hn] at HH
 have HN := Lib.hid hn
 have HP := Lib.hid hP
 have HNm := Lib.hid (fun w1 (hf : Frm (fun _ => False) w w1) => Name_calls w1 n.t (hE.frm0 hf).tabs)
 clear hE hP hn ho hs1 hs2 hc h64
 go_enter Tryz.func24, Tryz.ntmps24
 go_wp2_with fail
 refine HH.out.mono ?_
 rintro e w1 ⟨rfl, hf1⟩
 obtain ⟨gp, cp, kv, p0, _, hrow, _, e0, e1, e2, e3, e4, e5⟩ := (HP.out.frm0 hf1).node HN.out
 obtain ⟨KA, KC, rfl, _⟩ := sees_slice hrow.sees
 have HRow := Lib.hid hrow.sees
 obtain ⟨l0, l1⟩ := nth_lt HN.out
 have HF1 := Lib.hid hf1
 clear hf1 hrow
 go_wp2_with fail
 have HB2 := Lib.hid (blk_new (w := w1) (.cells #[.string n.op, .int .i64 n.t.1, .bool n.t.2, .int .u64 n.num, .int .i64 n.v, .slice KA n.kids.length KC] 76))
 have HF2 := Lib.hid (HF1.out.alloc (.cells #[.string n.op, .int .i64 n.t.1, .bool n.t.2, .int .u64 n.num, .int .i64 n.v, .slice KA n.kids.length KC] 76))
 refine (HNm.out _ HF2.out).mono ?_
 rintro e w2 ⟨rfl, hf2⟩
 have HF3 := Lib.hid (frm_then HF2.out hf2)
 have HB3 := Lib.hid (blk_frm HB2.out hf2 id)
 have b0 : w2.cell? ⟨w1.heap.size, 0, none⟩ = some (.string n.op) := blk_cell HB3.out 0
 have b3 : w2.cell? ⟨w1.heap.size, 3, none⟩ = some (.int .u64 n.num) := blk_cell HB3.out 3
 have b4 : w2.cell? ⟨w1.heap.size, 4, none⟩ = some (.int .i64 n.v) := blk_cell HB3.out 4
 have b5 : w2.cell? ⟨w1.heap.size, 5, none⟩ = some (.slice KA n.kids.length KC) := blk_cell HB3.out 5
 have HRow3 := Lib.hid (HRow.out.frm (frm_then (frm_alloc w1 (.cells #[.string n.op, .int .i64 n.t.1, .bool n.t.2, .int .u64 n.num, .int .i64 n.v, .slice KA n.kids.length KC] 76)) hf2) fun _ _ _ => id)
 clear hf2
 go_wp2_with fail
 refine (HU.out _ HF3.out).mono ?_
 rintro e w3 ⟨rfl, hf3⟩
 have HF4 := Lib.hid (frm_then HF3.out hf3)
 clear hf3
 go_wp2
 go_ret
 exact ⟨rfl, HF4.out⟩
set_option maxRecDepth 100000 in
set_option maxHeartbeats 1000000 in
theorem show_var {w : World} {own : Nat → Prop} {p : Nat} {s : TPool} (hE : Env w) (hP : PoolAt w own p s) {f : Int} {n : TNode} (hn : nth s.l f = some n) (ho : n.op = sVar) (hv : is64 n.v) :
  Calls Tryz.prog 24 #[.pointer (some ⟨p, 0, none⟩), .int .i64 f] w (SPost w (showVar n)) := by
 have d1 : (n.op.toList == [110, 117, 109]) = false := by rw [eqS, ho]; decide
 have d2 : (n.op.toList == [118, 97, 114]) = true := by rw [eqS]; exact decide_eq_true ho
 have HU := Lib.hid (fun w1 (hf : Frm (fun _ => False) w w1) => Itoa_calls w1 n.v hv.1 hv.2 (hE.frm0 hf))
 have hs1 := Go.Tp.name_size n.t
 have hs2 := itoa_size n.v hv.1 hv.2
 have hc : colon.size = 1 := rfl
 have hc2 : sV.size = 1 := rfl
 have k1 := addS sV ⟨(Lib.itoa n.v).toArray⟩ _ rfl (by omega)
 have k2 := addS (sV ++ ⟨(Lib.itoa n.v).toArray⟩) colon _ rfl (by simp only [ByteArray.size_append]; omega)
 have k3 := addS (sV ++ ⟨(Lib.itoa n.v).toArray⟩ ++ colon) (nameF n.t) (showVar n) rfl (by simp only [ByteArray.size_append]; omega)
 have HH := Lib.hid (has1 hP f w.heap.size rfl)
 rw [nth_in hn] at HH
 have HN := Lib.hid hn
 have HP := Lib.hid hP
 have HNm := Lib.hid (fun w1 (hf : Frm (fun _ => False) w w1) => Name_calls w1 n.t (hE.frm0 hf).tabs)
 clear hE hP hn ho hs1 hs2 hc hc2 hv
 go_enter Tryz.func24, Tryz.ntmps24
 go_wp2_with fail
 refine HH.out.mono ?_
 rintro e w1 ⟨rfl, hf1⟩
 obtain ⟨gp, cp, kv, p0, _, hrow, _, e0, e1, e2, e3, e4, e5⟩ := (HP.out.frm0 hf1).node HN.out
 obtain ⟨KA, KC, rfl, _⟩ := sees_slice hrow.sees
 have HRow := Lib.hid hrow.sees
 obtain ⟨l0, l1⟩ := nth_lt HN.out
 have HF1 := Lib.hid hf1
 clear hf1 hrow
 go_wp2_with fail
 have HB2 := Lib.hid (blk_new (w := w1) (.cells #[.string n.op, .int .i64 n.t.1, .bool n.t.2, .int .u64 n.num, .int .i64 n.v, .slice KA n.kids.length KC] 76))
 have HF2 := Lib.hid (HF1.out.alloc (.cells #[.string n.op, .int .i64 n.t.1, .bool n.t.2, .int .u64 n.num, .int .i64 n.v, .slice KA n.kids.length KC] 76))
 refine (HNm.out _ HF2.out).mono ?_
 rintro e w2 ⟨rfl, hf2⟩
 have HF3 := Lib.hid (frm_then HF2.out hf2)
 have HB3 := Lib.hid (blk_frm HB2.out hf2 id)
 have b0 : w2.cell? ⟨w1.heap.size, 0, none⟩ = some (.string n.op) := blk_cell HB3.out 0
 have b3 : w2.cell? ⟨w1.heap.size, 3, none⟩ = some (.int .u64 n.num) := blk_cell HB3.out 3
 have b4 : w2.cell? ⟨w1.heap.size, 4, none⟩ = some (.int .i64 n.v) := blk_cell HB3.out 4
 have b5 : w2.cell? ⟨w1.heap.size, 5, none⟩ = some (.slice KA n.kids.length KC) := blk_cell HB3.out 5
 have HRow3 := Lib.hid (HRow.out.frm (frm_then (frm_alloc w1 (.cells #[.string n.op, .int .i64 n.t.1, .bool n.t.2, .int .u64 n.num, .int .i64 n.v, .slice KA n.kids.length KC] 76)) hf2) fun _ _ _ => id)
 clear hf2
 go_wp2_with fail
 refine (HU.out _ HF3.out).mono ?_
 rintro e w3 ⟨rfl, hf3⟩
 have HF4 := Lib.hid (frm_then HF3.out hf3)
 clear hf3
 go_wp2
 go_ret
 exact ⟨rfl, HF4.out⟩
set_option maxRecDepth 100000 in
set_option maxHeartbeats 1000000 in
theorem show_op {w : World} {own : Nat → Prop} {p : Nat} {s : TPool} (hE : Env w) (hP : PoolAt w own p s) {f : Int} {n : TNode} (hn : nth s.l f = some n) (h1 : n.op ≠ sNum) (h2 : n.op ≠ sVar) (h3 : n.op ≠ sCast) (hop : n.op.size ≤ 1000) (hkl : n.kids.length ≤ 1000) (sh : Int → ByteArray) (hsz : ∀ k ∈ n.kids, (sh k).size ≤ 1000)
  (hk : ∀ k ∈ n.kids, ∀ w1, Frm (fun _ => False) w w1 → Calls Tryz.prog 24 #[.pointer (some ⟨p, 0, none⟩), .int .i64 k] w1 (SPost w1 (sh k))) :
  Calls Tryz.prog 24 #[.pointer (some ⟨p, 0, none⟩), .int .i64 f] w (SPost w (showOp sh n)) := by
 have d1 : (n.op.toList == [110, 117, 109]) = false := by rw [eqS]; exact decide_eq_false h1
 have d2 : (n.op.toList == [118, 97, 114]) = false := by rw [eqS]; exact decide_eq_false h2
 have d3 : (n.op.toList == [99, 97, 115, 116]) = false := by rw [eqS]; exact decide_eq_false h3
 have hc1 : sOpen.size = 1 := rfl
 have hc2 : sShut.size = 1 := rfl
 have hc3 : sSpace.size = 1 := rfl
 have k1 := addS sOpen n.op _ rfl (by omega)
 have HZ := Lib.hid (fun j => show (showK sh (sOpen ++ n.op) (n.kids.take j)).size ≤ 1002001 from by
  have q1 := showK_size (sh := sh) (m := 1000) (n.kids.take j) (sOpen ++ n.op) (fun x hx => hsz x (List.mem_of_mem_take hx))
  have q2 : (n.kids.take j).length ≤ 1000 := by rw [List.length_take]; omega
  have q3 : (n.kids.take j).length * 1001 ≤ 1000 * 1001 := Nat.mul_le_mul_right _ q2
  simp only [ByteArray.size_append] at q1
  omega)
 have HSZ := Lib.hid hsz
 have HK := Lib.hid hk
 have HH := Lib.hid (has1 hP f w.heap.size rfl)
 rw [nth_in hn] at HH
 have HN := Lib.hid hn
 have HP := Lib.hid hP
 have HNm := Lib.hid (fun w1 (hf : Frm (fun _ => False) w w1) => Name_calls w1 n.t (hE.frm0 hf).tabs)
 clear hE hP hn h1 h2 h3 hop hsz hk hc1 hc2 hc3
 go_enter Tryz.func24, Tryz.ntmps24
 go_wp2_with fail
 refine HH.out.mono ?_
 rintro e w1 ⟨rfl, hf1⟩
 obtain ⟨gp, cp, kv, p0, _, hrow, _, e0, e1, e2, e3, e4, e5⟩ := (HP.out.frm0 hf1).node HN.out
 obtain ⟨KA, KC, rfl, _⟩ := sees_slice hrow.sees
 have HRow := Lib.hid hrow.sees
 obtain ⟨l0, l1⟩ := nth_lt HN.out
 have HF1 := Lib.hid hf1
 clear hf1 hrow
 go_wp2_with fail
 have HB2 := Lib.hid (blk_new (w := w1) (.cells #[.string n.op, .int .i64 n.t.1, .bool n.t.2, .int .u64 n.num, .int .i64 n.v, .slice KA n.kids.length KC] 76))
 have HF2 := Lib.hid (HF1.out.alloc (.cells #[.string n.op, .int .i64 n.t.1, .bool n.t.2, .int .u64 n.num, .int .i64 n.v, .slice KA n.kids.length KC] 76))
 refine (HNm.out _ HF2.out).mono ?_
 rintro e w2 ⟨rfl, hf2⟩
 have HF3 := Lib.hid (frm_then HF2.out hf2)
 have HB3 := Lib.hid (blk_frm HB2.out hf2 id)
 have b0 : w2.cell? ⟨w1.heap.size, 0, none⟩ = some (.string n.op) := blk_cell HB3.out 0
 have b3 : w2.cell? ⟨w1.heap.size, 3, none⟩ = some (.int .u64 n.num) := blk_cell HB3.out 3
 have b4 : w2.cell? ⟨w1.heap.size, 4, none⟩ = some (.int .i64 n.v) := blk_cell HB3.out 4
 have b5 : w2.cell? ⟨w1.heap.size, 5, none⟩ = some (.slice KA n.kids.length KC) := blk_cell HB3.out 5
 have HRow3 := Lib.hid (HRow.out.frm (frm_then (frm_alloc w1 (.cells #[.string n.op, .int .i64 n.t.1, .bool n.t.2, .int .u64 n.num, .int .i64 n.v, .slice KA n.kids.length KC] 76)) hf2) fun _ _ _ => id)
 clear hf2
 obtain ⟨A, cap, eK, hcell⟩ := sees_slice HRow3.out
 cases eK
 have HCE := Lib.hid hcell
 clear hcell
 go_wp2_with fail
 clear k1
 go_loopw [7, 63] (fun v7 v63 w' => ∃ k : Nat, k ≤ n.kids.length ∧ v63 = .int .i64 k ∧ v7 = .string (showK sh (sOpen ++ n.op) (n.kids.take k)) ∧ Hid (Frm (fun _ => False) w w') ∧ Hid (Frm (fun _ => False) w2 w')) (fun _ v63 _ => n.kids.length - (intOf v63).toNat)
 case atStart => exact ⟨0, Nat.zero_le _, rfl, rfl, HF3, Lib.hid (Frm.refl _ _)⟩
 case round =>
  obtain ⟨k, hk, rfl, rfl, HFr, HF2r⟩ := hrel
  by_cases hlt : k < n.kids.length
  ·have hltI : (k : Int) < (n.kids.length : Int) := by omega
   obtain ⟨x, hx⟩ : ∃ x, n.kids[k]? = some x := ⟨_, List.getElem?_eq_getElem hlt⟩
   have hmem : x ∈ n.kids := List.mem_of_getElem? hx
   obtain ⟨g, o, rfl, hc⟩ := HCE.out k x hx
   have hc := frm_cell HF2r.out hc
   have hsz := HZ.out k
   have hszx := HSZ.out x hmem
   have htk : n.kids.take (k + 1) = n.kids.take k ++ [x] := by rw [List.take_add_one, hx]; rfl
   have hs1 : sSpace.size = 1 := rfl
   have q1 := addS sSpace (sh x) _ rfl (by omega)
   have q2 := addS (showK sh (sOpen ++ n.op) (n.kids.take k)) (sSpace ++ sh x) (showK sh (sOpen ++ n.op) (n.kids.take (k + 1))) (by rw [htk, showK_snoc]) (by simp only [ByteArray.size_append]; omega)
   have HC := Lib.hid (HK.out x hmem wr HFr.out)
   clear hx hmem hsz hszx htk hs1
   go_wp2_with fail
   refine HC.out.mono ?_
   rintro e w4 ⟨rfl, hf4⟩
   have HF4 := Lib.hid (frm_then HFr.out hf4)
   have HF5 := Lib.hid (frm_then HF2r.out hf4)
   clear hf4
   go_wp2
   go_roundw
   case rel => exact ⟨k + 1, by omega, by go_num, rfl, HF4, HF5⟩
   case measure => simp [intOf]; omega
  ·have hkk : n.kids.take k = n.kids := List.take_of_length_le (by omega)
   have hz := HZ.out k
   rw [hkk] at hz ⊢
   have hc2 : sShut.size = 1 := rfl
   have q1 := addS (showK sh (sOpen ++ n.op) n.kids) sShut (showOp sh n) rfl (by omega)
   have hltI : ¬ (k : Int) < (n.kids.length : Int) := by omega
   clear hkk hz hc2
   go_wp2
   go_ret
   exact ⟨rfl, HFr.out⟩
end TmW
end Go.Proofs.YtbbajekecppioaaGreatDoor
/- What Put does with each part, walked. -/
namespace Go.Proofs.YtbbajekecppioaaGreatDoor
open Go.RowKit Go.Mem Go.Wd Go.Tp
namespace TmW
abbrev iI : Int → Value := Value.int .i64
def nowV (m : List (Int × Int)) (k : Int) : Int := (mget m k).getD 0
/-- What a part becomes before its own parts are looked at. -/
def nowStep (to now : List (Int × Int)) (n : TNode) (f : Int) : List (Int × Int) :=
 match mget to n.v with
 | some g => if n.op = sVar then mput (mput now f f) f g else mput now f f
 | none => mput now f f
def takeP (N : List TNode) (to : List (Int × Int)) (x : List (Int × Int) × TPool) (f : Int) : Option (List (Int × Int) × TPool) :=
 match nth N f with
 | none => none
 | some n =>
  let now := nowStep to x.1 n f
  if n.kids = [] then some (now, x.2)
  else if x.2.l.length + 2 < 4294967296 ∧ n.kids.length ≤ 1000 then
   if n.op = sCast then some (mput now f (CastF x.2 n.t (nowV now (n.kids.headD 0))).1.1, (CastF x.2 n.t (nowV now (n.kids.headD 0))).2)
   else some (mput now f (DoF x.2 n.op (n.kids.map (nowV now))).1.1, (DoF x.2 n.op (n.kids.map (nowV now))).2)
  else none
structure RepP (e : Int → Nat) (p : Nat) (N : List TNode) (to : List (Int × Int)) (bp cn ct bn bt : Nat) (w : World) (own : Nat → Prop) (x : List (Int × Int) × TPool) : Prop where
 pool : ∃ ownP, PoolAt w ownP p x.2 ∧ (∀ b, ownP b → own b) ∧ (¬ ownP bp ∧ ¬ ownP cn ∧ ¬ ownP ct ∧ ¬ ownP bn ∧ ¬ ownP bt)
 pre : ∀ f n, nth N f = some n → nth x.2.l f = some n
 good : ∃ D, Good e x.2 D
 hbp : w.heap[bp]? = some (.cells #[.pointer (some ⟨p, 0, none⟩)] 32)
 hcn : w.heap[cn]? = some (.cells #[.map (some bn)] 92)
 hct : w.heap[ct]? = some (.cells #[.map (some bt)] 92)
 mn : IMap w bn x.1
 mt : IMap w bt to
 env : Env w
 ob : own bp ∧ own cn ∧ own ct ∧ own bn ∧ own bt
 nb : bn ≠ bt
 lt : ∀ b, own b → b < w.heap.size
 lo : ∀ b, own b → 2 ≤ b
section
variable {e : Int → Nat} {p : Nat} {N : List TNode} {to : List (Int × Int)} {bp cn ct bn bt : Nat} {w w' : World} {own : Nat → Prop} {x : List (Int × Int) × TPool}
theorem RepP.frm {S : Nat → Prop} (h : RepP e p N to bp cn ct bn bt w own x) (hf : Frm S w w') (hS : ∀ b, own b → ¬ S b) (h01 : ∀ b, b < 2 → ¬ S b) : RepP e p N to bp cn ct bn bt w' own x := by
 obtain ⟨ownP, h1, h2, h3⟩ := h.pool
 exact ⟨⟨ownP, h1.frm hf fun b hb => hS b (h2 b hb), h2, h3⟩, h.pre, h.good, blk_frm h.hbp hf (hS _ h.ob.1), blk_frm h.hcn hf (hS _ h.ob.2.1), blk_frm h.hct hf (hS _ h.ob.2.2.1), h.mn.frm hf (hS _ h.ob.2.2.2.1), h.mt.frm hf (hS _ h.ob.2.2.2.2), h.env.frm hf (h01 0 (by omega)) (h01 1 (by omega)), h.ob, h.nb, fun b hb => Nat.lt_of_lt_of_le (h.lt b hb) hf.size, h.lo⟩
theorem RepP.frm0 (h : RepP e p N to bp cn ct bn bt w own x) (hf : Frm (fun _ => False) w w') : RepP e p N to bp cn ct bn bt w' own x := h.frm hf (fun _ _ => id) fun _ _ => id
/-- Behind a value that was put into the map. -/
theorem RepP.put (h : RepP e p N to bp cn ct bn bt w own x) (f v : Int) (hm : IMap w' bn (mput x.1 f v)) (hg : w.grownBy w' (some bn)) :
  RepP e p N to bp cn ct bn bt w' own (mput x.1 f v, x.2) ∧ PMoves own w own w' := by
 have hF : Frm (fun b => b = bn) w w' := (Frm.of_grown hg).mono fun b _ e => (by cases e; rfl)
 have hmap : ∀ cs t z, w.heap[bn]? ≠ some (.cells cs t z) := fun cs t z e => by
  obtain ⟨es, c, h1, _⟩ := h.mn
  rw [e] at h1; cases h1
 have hlo := h.lo _ h.ob.2.2.2.1
 obtain ⟨ownP, h1, h2, h3⟩ := h.pool
 exact ⟨⟨⟨ownP, h1.frm hF fun b hb e => h3.2.2.2.1 (e ▸ hb), h2, h3⟩, h.pre, h.good, blk_frm h.hbp hF (fun e => hmap _ _ _ (e ▸ h.hbp)), blk_frm h.hcn hF (fun e => hmap _ _ _ (e ▸ h.hcn)), blk_frm h.hct hF (fun e => hmap _ _ _ (e ▸ h.hct)), hm, h.mt.frm hF (fun e => h.nb e.symm), h.env.frm hF (by omega) (by omega), h.ob, h.nb, fun b hb => Nat.lt_of_lt_of_le (h.lt b hb) hF.size, h.lo⟩, hF.mono fun b _ e => e ▸ h.ob.2.2.2.1, fun b hb => .inl hb, fun b cs hb => blk_frm hb hF fun e => hmap _ _ _ (e ▸ hb)⟩
/-- Behind a call on the pool. -/
theorem RepP.call {ownP ownQ : Nat → Prop} {s2 : TPool} (h : RepP e p N to bp cn ct bn bt w own x) (hs : ∀ b, ownP b → own b) (hn : ¬ ownP bp ∧ ¬ ownP cn ∧ ¬ ownP ct ∧ ¬ ownP bn ∧ ¬ ownP bt) (hP : PoolAt w' ownQ p s2) (hM : PMoves ownP w ownQ w') (hg : ∃ D, Good e s2 D) (hpre : ∀ f n, nth N f = some n → nth s2.l f = some n) :
  RepP e p N to bp cn ct bn bt w' (fun b => own b ∨ ownQ b) (x.1, s2) ∧ PMoves own w (fun b => own b ∨ ownQ b) w' := by
 have hlo : ∀ b, ownQ b → 2 ≤ b := hP.lo
 have hnq : ∀ b, b < w.heap.size → ¬ ownP b → ¬ ownQ b := fun b hb h1 h2 => (hM.2.1 b h2).elim h1 fun h => by omega
 have e2 := fun b => h.lo b
 refine ⟨⟨⟨ownQ, hP, fun b hb => .inr hb, hnq _ (h.lt _ h.ob.1) hn.1, hnq _ (h.lt _ h.ob.2.1) hn.2.1, hnq _ (h.lt _ h.ob.2.2.1) hn.2.2.1, hnq _ (h.lt _ h.ob.2.2.2.1) hn.2.2.2.1, hnq _ (h.lt _ h.ob.2.2.2.2) hn.2.2.2.2⟩, hpre, hg, blk_frm h.hbp hM.1 hn.1, blk_frm h.hcn hM.1 hn.2.1, blk_frm h.hct hM.1 hn.2.2.1, h.mn.frm hM.1 hn.2.2.2.1, h.mt.frm hM.1 hn.2.2.2.2, h.env.frm hM.1 (fun hb => by have := e2 _ (hs _ hb); omega) (fun hb => by have := e2 _ (hs _ hb); omega), ⟨.inl h.ob.1, .inl h.ob.2.1, .inl h.ob.2.2.1, .inl h.ob.2.2.2.1, .inl h.ob.2.2.2.2⟩, h.nb, fun b hb => ?_, fun b hb => hb.elim (h.lo b) (hlo b)⟩, hM.1.mono fun b _ hb => hs b hb, fun b hb => ?_, hM.2.2⟩
 ·rcases hb with hb | hb
  ·exact Nat.lt_of_lt_of_le (h.lt b hb) hM.1.size
  ·exact hP.lt b hb
 ·rcases hb with hb | hb
  ·exact .inl hb
  ·exact (hM.2.1 b hb).imp (hs b) id
end
theorem do_grow {e : Int → Nat} {s : TPool} {D : Int → Nat} (h : Good e s D) (op : ByteArray) (l : List Int) : ∃ D', Good e (DoF s op l).2 D' ∧ Grow s D (DoF s op l).2 D' := by
 by_cases hl : l.all (inP s) = true
 ·by_cases ht : typedOk s op l = true
  ·obtain ⟨D', h1, h2, _⟩ := (do_done h (List.all_eq_true.1 hl) ht).came.out
   exact ⟨D', h1, h2⟩
  ·have : DoF s op l = ((0, 100), s) := by unfold DoF; rw [if_pos hl, if_neg ht]
   rw [this]; exact ⟨D, h, Grow.refl _ _⟩
 ·have : DoF s op l = ((0, 101), s) := by unfold DoF; rw [if_neg hl]
  rw [this]; exact ⟨D, h, Grow.refl _ _⟩
theorem cast_grow {e : Int → Nat} {s : TPool} {D : Int → Nat} (h : Good e s D) (t : Ty) (f : Int) : ∃ D', Good e (CastF s t f).2 D' ∧ Grow s D (CastF s t f).2 D' := by
 by_cases hl : inP s f = true
 ·by_cases ht : rightF t = true
  ·obtain ⟨D', h1, h2, _⟩ := (cast_done h ht hl).came.out
   exact ⟨D', h1, h2⟩
  ·have : CastF s t f = ((0, 100), s) := by unfold CastF; rw [if_pos hl, if_neg ht]
   rw [this]; exact ⟨D, h, Grow.refl _ _⟩
 ·have : CastF s t f = ((0, 101), s) := by unfold CastF; rw [if_neg hl]
  rw [this]; exact ⟨D, h, Grow.refl _ _⟩
theorem look_int {m : List (Int × Int)} {b : Nat} {w : World} (h : IMap w b m) (k : Int) :
  (Instr.lookup 92 (.map (some b)) (.int .i64 k) false).run Tryz.prog w = .ok (.int .i64 (nowV m k)) w := by
 have hlk := lookup_run keyInt Tryz.underlying92 zeroInt h k false
 simp only [Bool.false_eq_true, if_false, mval] at hlk
 rw [hlk]
 unfold nowV
 cases mget m k <;> rfl
theorem look_is {m : List (Int × Int)} {b : Nat} {w : World} (h : IMap w b m) (k : Int) :
  (Instr.lookup 92 (.map (some b)) (.int .i64 k) true).run Tryz.prog w = .ok (.tuple #[.int .i64 (nowV m k), .bool (mget m k).isSome]) w := by
 have hlk := lookup_run keyInt Tryz.underlying92 zeroInt h k true
 simp only [if_true, mval] at hlk
 rw [hlk]
 unfold nowV
 cases mget m k <;> rfl
end TmW
end Go.Proofs.YtbbajekecppioaaGreatDoor
