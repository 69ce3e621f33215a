/- What the document says that a tree is, walked: the parts joined. -/
import Derived.Test.YtbbajekecppioaaGreatDoorGa37
set_option linter.unusedSimpArgs false
set_option linter.unusedVariables false
namespace Go.Proofs.YtbbajekecppioaaGreatDoor
open Go.RowKit Go.Mem Go.Wd Go.Tp
namespace RfW
open TmW (frm_alloc frm_then Box wrap_nat64 frm_cellD frm_cell negE eqS countX countL typeX kindsX typeK evalX evalL evalK lastX noTy vtype is64 sNum sVar sCast sIte sUNot sUNeg sUTil sLand sLor tests test_no not_tests get_names last_kinds)
theorem word_not {t : Ty} {op : ByteArray} (h : (testF t op 0 0).2 = 0 ∨ (doF t op 0 1).2 = 0) (ho : ¬ (op = sLand ∨ op = sLor)) : op ≠ sCast ∧ op ≠ sIte ∧ op ≠ sUNot ∧ op ≠ sUNeg ∧ op ≠ sUTil ∧ op ≠ sLand ∧ op ≠ sLor := by
 have hm : op ∈ tests ∨ op ∈ [sAnd, sOr, sXor, sAdd, sSub, sMul, sShl, sShr, sQuo, sRem] := by
  rcases h with h | h
  ·left
   by_cases hm : op ∈ tests
   ·exact hm
   ·exact absurd h (test_no 0 0 (not_tests hm))
  ·right
   unfold doF at h
   split at h
   ·split at h
    ·simp at h
    ·rename_i hg; exact get_names hg
   ·simp at h
 simp only [tests, List.mem_cons, List.not_mem_nil, or_false] at hm
 rcases hm with (rfl | rfl | rfl | rfl | rfl | rfl) | (rfl | rfl | rfl | rfl | rfl | rfl | rfl | rfl | rfl | rfl)
 all_goals exact ⟨by decide, by decide, by decide, by decide, by decide, by decide, by decide⟩
theorem len_two {α : Type} {l : List α} (h : l.length = 2) : ∃ a b, l = [a, b] := by
 match l, h with
 | [a, b], _ => exact ⟨a, b, rfl⟩
theorem len_three {α : Type} {l : List α} (h : l.length = 3) : ∃ a b c, l = [a, b, c] := by
 match l, h with
 | [a, b, c], _ => exact ⟨a, b, c, rfl⟩
theorem evals_of {vs : List Ty} {is : List Nat} {kids : List Tree} {n : Nat} (h : kids.length = n) : (evalL vs is kids).length = n := by rw [evalL_len]; exact h
theorem Eval_calls (lim : Nat) (vs : List Ty) (is : List Nat) (vv iv : Value) (hlen : is.length = vs.length) : ∀ (n : Nat) (x : Tree), countX x ≤ n → n ≤ 4194304 → (typeX vs x).2 = true → ∀ (w : World) (val : Value), TreeV w lim val x → VarsIn w lim vv vs → IsIn w lim iv is →
  Calls Tryz.prog 14 #[val, vv, iv] w (NPost w (evalX vs is x))
 | 0, .mk .., h, _, _, _, _, _, _, _ => by rw [countX] at h; omega
 | n + 1, .mk op t num v kids, h, hn, hok, w, val, hv, hvars, hnums => by
  obtain ⟨hnum, hop, _, gl, ln, cl, A, c, rfl, hkl, hk⟩ := hv
  rw [countX] at h
  rw [typeX] at hok
  rw [evalX]
  unfold xcells
  by_cases n1 : op = sNum
  ·rw [if_pos n1]; exact eval_num w op t num v gl ln cl A _ c vv iv hnum n1
  rw [if_neg n1] at hok ⊢
  by_cases n2 : op = sVar
  ·rw [if_pos n2] at hok ⊢
   cases hvt : vtype vs v with
   | none => rw [hvt] at hok; cases hok
   | some u =>
    obtain ⟨hv0, hu⟩ := TmW.vtype_get hvt
    obtain ⟨k, rfl⟩ : ∃ k : Nat, v = k := ⟨v.toNat, by omega⟩
    simp only [Int.toNat_natCast] at hu
    have hkv := (List.getElem?_eq_some_iff.1 hu).1
    obtain ⟨B, d, rfl, hvl, hvc⟩ := hvars
    obtain ⟨B2, d2, rfl, hil, hic⟩ := hnums
    obtain ⟨_, g, o, rfl, _, h0, h1⟩ := hvc k u hu
    obtain ⟨z, hz⟩ : ∃ z, is[k]? = some z := ⟨_, List.getElem?_eq_getElem (by omega)⟩
    obtain ⟨hz64, g2, o2, rfl, _, h2⟩ := hic k z hz
    have e : (is.getD (k : Int).toNat 0) = z := by rw [List.getD_eq_getElem?_getD, Int.toNat_natCast, hz]; rfl
    rw [e]
    exact eval_var w op t num k gl ln cl A _ c g o vs.length d g2 o2 is.length d2 u z hvl hil n2 hkv (by omega) hz64 h0 h1 h2
  rw [if_neg n2] at hok ⊢
  cases hks : kindsX vs kids with
  | none => rw [hks] at hok; cases hok
  | some ks =>
   rw [hks] at hok
   simp only at hok
   obtain ⟨hkl1, hkt⟩ := kinds_get vs hks
   have hK : Kid w lim vv iv vs is A kids := ⟨hk, hvars, hnums, fun i x hx w1 val h1 h2 h3 => Eval_calls lim vs is vv iv hlen n x (by have := countL_mem hx; omega) (by omega) (hkt i x hx).1 w1 val h1 h2 h3, by omega, fun i x hx => (hkt i x hx).1⟩
   have hlast := last_kinds vs hks
   have hlt := evalL_lt vs is kids
   match ks, hkl1, hok, hlast with
   | [], _, hok, _ => cases hok
   | a :: b :: c1 :: d :: r, _, hok, _ =>
    have e : typeK op t (a :: b :: c1 :: d :: r) = (noTy, false) := by unfold typeK; rw [if_pos (.inr (by simp))]
    rw [e] at hok; cases hok
   | [a], hl, hok, hlast =>
    obtain ⟨z, hz⟩ := List.length_eq_one_iff.1 (evals_of (vs := vs) (is := is) hl.symm)
    have hlast : lastX vs kids = a := hlast
    rw [hz, hlast]
    have hz64 : z < 2 ^ 64 := by have := hlt 0; rw [hz] at this; exact this
    by_cases n3 : op = sCast
    ·have e : evalK op t a [z] = castF a t z := by unfold evalK; rw [if_pos n3]; rfl
     rw [e]; exact eval_cast w op t num v gl ln cl A c kids vv iv vs is hK 0 hl.symm n1 n2 z a hlast hz n3 hz64
    ·have e : typeK op t [a] = (a, (decide (op = sUNot) && decide (a.1 = 1)) || ((decide (op = sUNeg) || decide (op = sUTil)) && decide (1 < a.1))) := by
      unfold typeK; rw [if_neg (by simp)]; simp only; rw [if_neg n3, if_neg (by simp), if_pos (by simp)]; rfl
     rw [e] at hok
     have n4 : op = sUNot ∨ op = sUNeg ∨ op = sUTil := by
      simp only [Bool.or_eq_true, Bool.and_eq_true, decide_eq_true_iff] at hok
      rcases hok with h | h
      ·exact .inl h.1
      ·exact .inr h.1
     have e2 : evalK op t a [z] = (turnF a (op.extract 1 op.size) z).1 := by
      unfold evalK; rw [if_neg n3, if_neg (by rcases n4 with rfl | rfl | rfl <;> decide), if_pos n4]; rfl
     rw [e2]; exact eval_turn w op t num v gl ln cl A c kids vv iv vs is hK 0 hl.symm n1 n2 z a hlast hz n4 hz64
   | [a, b, c1], hl, hok, hlast =>
    obtain ⟨z1, z2, z3, hz⟩ := len_three (evals_of (vs := vs) (is := is) hl.symm)
    have hlast : lastX vs kids = c1 := hlast
    by_cases n3 : op = sCast
    ·have e : typeK op t [a, b, c1] = (t, false) := by unfold typeK; rw [if_neg (by simp)]; simp only; rw [if_pos n3]; simp
     rw [e] at hok; cases hok
    ·have e : typeK op t [a, b, c1] = (c1, decide (op = sIte) && decide (a.1 = 1) && decide (b = c1)) := by
      unfold typeK; rw [if_neg (by simp)]; simp only; rw [if_neg n3, if_pos (by simp)]; rfl
     rw [e] at hok
     have n4 : op = sIte := by simp only [Bool.and_eq_true, decide_eq_true_iff] at hok; exact hok.1.1
     have e2 : evalK op t (lastX vs kids) (evalL vs is kids) = if z1 = 1 then z2 else z3 := by unfold evalK; rw [hz, if_neg n3, if_pos n4]; rfl
     rw [e2]; exact eval_ite w op t num v gl ln cl A c kids vv iv vs is hK 2 hl.symm n1 n2 z1 z2 z3 c1 hlast hz n4 _ rfl
   | [a, b], hl, hok, hlast =>
    obtain ⟨z1, z2, hz⟩ := len_two (evals_of (vs := vs) (is := is) hl.symm)
    have hlast : lastX vs kids = b := hlast
    have h1 : z1 < 2 ^ 64 := by have := hlt 0; rw [hz] at this; exact this
    have h2 : z2 < 2 ^ 64 := by have := hlt 1; rw [hz] at this; exact this
    by_cases n3 : op = sCast
    ·have e : typeK op t [a, b] = (t, false) := by unfold typeK; rw [if_neg (by simp)]; simp only; rw [if_pos n3]; simp
     rw [e] at hok; cases hok
    ·have e0 : typeK op t [a, b] = if a ≠ b then (noTy, false) else if op = sLand ∨ op = sLor then ((1, false), decide (b = (1, false))) else if (testF b op 0 0).2 = 0 then ((1, false), true) else (b, decide ((doF b op 0 1).2 = 0)) := by
      unfold typeK; rw [if_neg (by simp)]; simp only; rw [if_neg n3, if_neg (by simp), if_neg (by simp)]; rfl
     rw [e0] at hok
     by_cases hab : a = b
     ·rw [if_neg (fun h => h hab)] at hok
      by_cases ho : op = sLand
      ·have e2 : evalK op t (lastX vs kids) (evalL vs is kids) = z1 * z2 % 2 ^ 64 := by
        unfold evalK; rw [hz, if_neg n3, if_neg (by rw [ho]; decide), if_neg (by rw [ho]; decide), if_pos ho]; rfl
       rw [e2]; exact eval_and w op t num v gl ln cl A c kids vv iv vs is hK 1 hl.symm n1 n2 z1 z2 b hlast hz ho
      ·by_cases ho2 : op = sLor
       ·have e2 : evalK op t (lastX vs kids) (evalL vs is kids) = z1 ||| z2 := by
         unfold evalK; rw [hz, if_neg n3, if_neg (by rw [ho2]; decide), if_neg (by rw [ho2]; decide), if_neg ho, if_pos ho2]; rfl
        rw [e2]; exact eval_or w op t num v gl ln cl A c kids vv iv vs is hK 1 hl.symm n1 n2 z1 z2 b hlast hz ho2 h1 h2
       ·have hno : ¬ (op = sLand ∨ op = sLor) := by rintro (h | h); exact ho h; exact ho2 h
        rw [if_neg hno] at hok
        have hw : (testF b op 0 0).2 = 0 ∨ (doF b op 0 1).2 = 0 := by
         by_cases ht : (testF b op 0 0).2 = 0
         ·exact .inl ht
         ·rw [if_neg ht] at hok; exact .inr (by simpa using hok)
        have hnot := word_not hw hno
        have e2 : evalK op t (lastX vs kids) (evalL vs is kids) = if (testF b op z1 z2).2 = 0 then (testF b op z1 z2).1.toNat else (doF b op z1 z2).1 := by
         unfold evalK; rw [hz, hlast, if_neg n3, if_neg hnot.2.1, if_neg (by rintro (h | h | h); exact hnot.2.2.1 h; exact hnot.2.2.2.1 h; exact hnot.2.2.2.2.1 h), if_neg ho, if_neg ho2]; rfl
        rw [e2]; exact eval_word w op t num v gl ln cl A c kids vv iv vs is hK 1 hl.symm n1 n2 z1 z2 b hlast hz hnot h1 h2 _ rfl
     ·rw [if_pos hab] at hok; cases hok
end RfW
end Go.Proofs.YtbbajekecppioaaGreatDoor
/- The law's Build walked. -/
namespace Go.Proofs.YtbbajekecppioaaGreatDoor
open Go.RowKit Go.Mem Go.Wd Go.Tp
namespace LawT
open TmW (frm_alloc frm_then frm_cellD frm_cell eqS countX countL typeX evalX vtype is64 sNum sVar sCast buildF buildL TypesOk PoolAt TPost PMoves IntKept Env NumF VarF CastF DoF Built Num_calls Var_calls PCast_calls PDo_calls build_ok kept_frm0)
open RfW (TreeV TreeAt KidsAt VarsIn xcells countL_mem countL_take countL_le count_len)
abbrev iI : Int → Value := Value.int .i64
theorem buildL_snoc (vs : List Ty) (x : Tree) : ∀ (l : List Tree) (s : TPool), (buildL vs l s).1.2 = 0 → (buildL vs (l ++ [x]) s) =
  if (buildF vs x (buildL vs l s).2).1.2 = 0 then (((buildL vs l s).1.1 ++ [(buildF vs x (buildL vs l s).2).1.1], 0), (buildF vs x (buildL vs l s).2).2) else (((buildL vs l s).1.1, (buildF vs x (buildL vs l s).2).1.2), (buildF vs x (buildL vs l s).2).2)
 | [], s, _ => by
  by_cases hx : (buildF vs x s).1.2 = 0 <;> simp [buildL, hx]
 | y :: r, s, h => by
  simp only [List.cons_append, buildL] at h ⊢
  by_cases hy : (buildF vs y s).1.2 = 0
  ·simp only [if_pos hy] at h ⊢
   rw [buildL_snoc vs x r _ h]
   split <;> simp [h]
  ·rw [if_neg hy] at h
   exact absurd h hy
theorem buildL_stop (vs : List Ty) (r : List Tree) : ∀ (l : List Tree) (s : TPool), (buildL vs l s).1.2 ≠ 0 → (buildL vs (l ++ r) s).1.2 = (buildL vs l s).1.2 ∧ (buildL vs (l ++ r) s).2 = (buildL vs l s).2
 | [], s, h => absurd rfl h
 | y :: t, s, h => by
  simp only [List.cons_append, buildL] at h ⊢
  by_cases hy : (buildF vs y s).1.2 = 0
  ·simp only [if_pos hy] at h ⊢
   exact buildL_stop vs r t _ h
  ·simp [hy]
theorem info_int : (Tryz.prog.info? 3).map (fun i => (i.zero, i.size, i.bytes)) = some (some (.int .i64 0), 1, 8) := by kernel_rfl
/-- Behind the first kids. -/
structure Mid (w wr : World) (own own' : Nat → Prop) (p : Nat) (s s' : TPool) (e : Int → Nat) (vs : List Ty) (rv : Value) (ids : List Int) (xb : Obj) (m : Nat) : Prop where
 pool : PoolAt wr own' p s'
 moves : PMoves own w own' wr
 good : ∃ D, TmW.Good e s' D
 types : TypesOk vs s'
 row : Row wr 3 iI rv ids
 apart : ∀ g, rv.ownBlock = some g → ¬ own' g ∧ w.heap.size + 1 ≤ g
 box : wr.heap[w.heap.size]? = some xb
 mybox : ¬ own' w.heap.size
 len : s'.l.length ≤ s.l.length + 2 * m
theorem Mid.frm0 {w wr w2 : World} {own own' : Nat → Prop} {p : Nat} {s s' : TPool} {e : Int → Nat} {vs : List Ty} {rv : Value} {ids : List Int} {xb : Obj} {m : Nat} (h : Mid w wr own own' p s s' e vs rv ids xb m) (hf : Frm (fun _ => False) wr w2) : Mid w w2 own own' p s s' e vs rv ids xb m :=
 ⟨h.pool.frm0 hf, TmW.PMoves.trans h.moves (TmW.PMoves.of0 hf), h.good, h.types, h.row.frm0 hf, h.apart, blk_frm h.box hf id, h.mybox, h.len⟩
theorem Mid.low {w wr : World} {own own' : Nat → Prop} {p : Nat} {s s' : TPool} {e : Int → Nat} {vs : List Ty} {rv : Value} {ids : List Int} {xb : Obj} {m lim : Nat} (h : Mid w wr own own' p s s' e vs rv ids xb m) (hl : lim ≤ w.heap.size) (ho : ∀ b, own b → lim ≤ b) : ∀ b, own' b → lim ≤ b := fun b hb => (h.moves.2.1 b hb).elim (ho b) fun h => Nat.le_trans hl h
/-- What lies below is as it was. -/
theorem moves_low {w w' : World} {own own' : Nat → Prop} {lim : Nat} (h : PMoves own w own' w') (ho : ∀ b, own b → lim ≤ b) : ∀ b, b < lim → b < w.heap.size → w'.heap[b]? = w.heap[b]? := fun b hb hw => h.1.block b hw fun o => by have := ho b o; omega
set_option maxRecDepth 100000 in
set_option maxHeartbeats 1000000 in
theorem build_num {lim : Nat} {w : World} {own : Nat → Prop} {p : Nat} {s : TPool} (hE : Env w) (hP : PoolAt w own p s) (op : ByteArray) (t : Ty) (num : Nat) (v : Int) (gl : Bool) (ln cl : Int) (A : Option Addr) (c : Nat) (kids : List Tree) (vv : Value) (hn : num < 2 ^ 64) (n1 : op = sNum) (hroom : s.l.length < 4294967296) :
  Calls Tryz.prog 9 #[.pointer (some ⟨p, 0, none⟩), .agg #[.string op, .int .i64 t.1, .bool t.2, .int .u64 num, .int .i64 v, .bool gl, .int .i64 ln, .int .i64 cl, .slice A kids.length c], vv] w (TPost own w p (.tuple #[.int .i64 (NumF s t num).1.1, .int .i64 (NumF s t num).1.2]) (NumF s t num).2) := by
 have d1 : (op.toList == [110, 117, 109]) = true := by rw [eqS]; exact decide_eq_true n1
 have HN := Lib.hid fun w1 (hf : Frm (fun _ => False) w w1) => Num_calls (hE.frm0 hf) (hP.frm0 hf) t num hn hroom
 have HF1 := Lib.hid (frm_alloc w (.cells #[.string op, .int .i64 t.1, .bool t.2, .int .u64 num, .int .i64 v, .bool gl, .int .i64 ln, .int .i64 cl, .slice A kids.length c] 27))
 clear hE hP n1 hn hroom
 generalize NumF s t num = r at *
 go_enter Tryz.func9, Tryz.ntmps9
 go_wp2_with fail
 refine (HN.out _ HF1.out).mono ?_
 rintro e w2 ⟨rfl, own2, hP2, hM2⟩
 have HR := Lib.hid (And.intro hP2 (TmW.moves_pre HF1.out hM2))
 clear hP2 hM2
 go_wp2
 go_ret2
 exact ⟨rfl, own2, HR.out.1, HR.out.2⟩
set_option maxRecDepth 100000 in
set_option maxHeartbeats 1000000 in
theorem build_out {lim : Nat} {w : World} {own : Nat → Prop} {p : Nat} {s : TPool} (hE : Env w) (hP : PoolAt w own p s) (op : ByteArray) (t : Ty) (num : Nat) (v : Int) (gl : Bool) (ln cl : Int) (A : Option Addr) (c : Nat) (kids : List Tree) (B : Option Addr) (m d : Nat) (hm : m ≤ maxLen) (n1 : op = sVar) (hv : v < 0 ∨ (m : Int) ≤ v) :
  Calls Tryz.prog 9 #[.pointer (some ⟨p, 0, none⟩), .agg #[.string op, .int .i64 t.1, .bool t.2, .int .u64 num, .int .i64 v, .bool gl, .int .i64 ln, .int .i64 cl, .slice A kids.length c], .slice B m d] w (TPost own w p (.tuple #[.int .i64 0, .int .i64 102]) s) := by
 have d1 : (op.toList == [110, 117, 109]) = false := by rw [eqS, n1]; decide
 have d2 : (op.toList == [118, 97, 114]) = true := by rw [eqS]; exact decide_eq_true n1
 have HP := Lib.hid hP
 have HF1 := Lib.hid (frm_alloc w (.cells #[.string op, .int .i64 t.1, .bool t.2, .int .u64 num, .int .i64 v, .bool gl, .int .i64 ln, .int .i64 cl, .slice A kids.length c] 27))
 have hm' : m ≤ 9223372036854775807 := hm
 clear hE hP n1 hm
 rcases hv with hv | hv
 ·have hd : decide (v < 0) = true := decide_eq_true hv
  go_enter Tryz.func9, Tryz.ntmps9
  go_wp2
  go_ret2
  exact TmW.TPost.same HP.out rfl HF1.out
 ·have hd : decide (v < 0) = false := decide_eq_false (by omega)
  have hg : decide (v ≥ (m : Int)) = true := decide_eq_true hv
  go_enter Tryz.func9, Tryz.ntmps9
  go_wp2
  go_ret2
  exact TmW.TPost.same HP.out rfl HF1.out
set_option maxRecDepth 100000 in
set_option maxHeartbeats 1000000 in
theorem build_var {w : World} {own : Nat → Prop} {p : Nat} {s : TPool} (hE : Env w) (hP : PoolAt w own p s) (op : ByteArray) (t : Ty) (num : Nat) (k : Nat) (gl : Bool) (ln cl : Int) (A : Option Addr) (n c : Nat) (g o m d : Nat) (u : Ty) (hm : m ≤ maxLen) (n1 : op = sVar) (hk : k < m) (hk64 : is64 k) (h0 : w.cell? ⟨g, o + k * 2, none⟩ = some (.int .i64 u.1)) (h1 : w.cell? ⟨g, o + k * 2 + 1, none⟩ = some (.bool u.2)) (hroom : s.l.length < 4294967296) :
  Calls Tryz.prog 9 #[.pointer (some ⟨p, 0, none⟩), .agg #[.string op, .int .i64 t.1, .bool t.2, .int .u64 num, .int .i64 k, .bool gl, .int .i64 ln, .int .i64 cl, .slice A n c], .slice (some ⟨g, o, none⟩) m d] w (TPost own w p (.tuple #[.int .i64 (VarF s u k).1.1, .int .i64 (VarF s u k).1.2]) (VarF s u k).2) := by
 have d1 : (op.toList == [110, 117, 109]) = false := by rw [eqS, n1]; decide
 have d2 : (op.toList == [118, 97, 114]) = true := by rw [eqS]; exact decide_eq_true n1
 have hm' : m ≤ 9223372036854775807 := hm
 have hki : (k : Int) < (m : Int) := by omega
 have hd : decide ((k : Int) < 0) = false := decide_eq_false (by omega)
 have hg : decide ((k : Int) ≥ (m : Int)) = false := decide_eq_false (by omega)
 have HN := Lib.hid fun w1 (hf : Frm (fun _ => False) w w1) => Var_calls (hE.frm0 hf) (hP.frm0 hf) u k hk64 hroom
 clear hE hP n1 hm hroom
 generalize VarF s u k = r at *
 go_enter Tryz.func9, Tryz.ntmps9
 go_wp2_with fail
 have HF1 := Lib.hid (frm_alloc w (.cells #[.string op, .int .i64 t.1, .bool t.2, .int .u64 num, .int .i64 k, .bool gl, .int .i64 ln, .int .i64 cl, .slice A n c] 27))
 have HB1 := Lib.hid (blk_new (w := w) (.cells #[.string op, .int .i64 t.1, .bool t.2, .int .u64 num, .int .i64 k, .bool gl, .int .i64 ln, .int .i64 cl, .slice A n c] 27))
 obtain ⟨w1, hw1⟩ : ∃ w1, w1 = w.alloc (.cells #[.string op, .int .i64 t.1, .bool t.2, .int .u64 num, .int .i64 k, .bool gl, .int .i64 ln, .int .i64 cl, .slice A n c] 27) := ⟨_, rfl⟩
 rw [← hw1] at HB1 HF1 ⊢
 clear hw1
 have h0 := frm_cell HF1.out h0
 have h1 := frm_cell HF1.out h1
 have a4 : w1.cell? ⟨w.heap.size, 4, none⟩ = some (.int .i64 k) := blk_cell HB1.out 4
 refine Plan.wp_region_plan [0, 0, 0, 4, 14, 30, 0, 64, 255, 511, 511, 2047, 4095] [.mk [0, 1, 2, 3, 4, 5, 6, 7] 8 []] [9, 10, 11, 12] (by kernel_rfl) (by kernel_rfl) ?_
 simp only [Plan.wayOf, Plan.pickAll, List.getElem?_cons_zero, List.getElem?_cons_succ, List.getD_eq_getElem?_getD, Option.getD_some]
 refine Plan.wpWay_seg ?_
 repeat go_big_quiet_step (fail)
 refine wpQuiet_nil ?_; refine Plan.wpWay_act ?_
 go_wp2_with fail
 refine (HN.out _ HF1.out.drew).mono ?_
 rintro e w2 ⟨rfl, own2, hP2, hM2⟩
 have HR := Lib.hid (And.intro hP2 (TmW.moves_pre HF1.out.drew hM2))
 clear hP2 hM2
 go_wp2_with fail
 refine And.intro Plan.again_nil ?_
 refine Plan.wpWay_last ?_
 repeat go_big_quiet_step (fail)
 refine wpQuiet_nil ?_; refine NoPanic.normal ?_
 go_wp2
 go_ret2
 exact ⟨rfl, own2, HR.out.1, HR.out.2⟩
end LawT
end Go.Proofs.YtbbajekecppioaaGreatDoor
