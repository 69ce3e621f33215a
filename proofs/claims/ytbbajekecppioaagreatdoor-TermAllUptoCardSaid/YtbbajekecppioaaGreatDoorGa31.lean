/- A tree made a term by the calls is what the document's tree is: the law. No walk. -/
import Derived.Test.YtbbajekecppioaaGreatDoorGa30
import Derived.Test.YtbbajekecppioaaGreatDoorGa23
import Derived.Test.YtbbajekecppioaaGreatDoorGa01
import Derived.Deep.AppendLies
set_option linter.unusedSimpArgs false
set_option linter.unusedVariables false
namespace Go.Proofs.YtbbajekecppioaaGreatDoor
open Go.RowKit Go.Mem Go.Wd Go.Tp
namespace TmW
theorem typed_in {s : TPool} {op : ByteArray} {l : List Int} (hl : ∀ k ∈ l, inP s k = true) (h : typedOk s op l = false) : DoF s op l = ((0, 100), s) := by
 unfold DoF
 rw [if_pos (List.all_eq_true.2 hl), if_neg (by rw [h]; decide)]
structure BuiltL (vs : List Ty) (is : List Nat) (e : Int → Nat) (s : TPool) (D : Int → Nat) (r : (List Int × Int) × TPool) (l : List Tree) (kinds : List Ty) : Prop where
 err : r.1.2 = 0
 out : ∃ D', Good e r.2 D' ∧ Grow s D r.2 D' ∧ r.1.1.map D' = evalL vs is l
 inn : ∀ k ∈ r.1.1, inP r.2 k = true
 typ : r.1.1.map (typeF r.2) = kinds
 len : r.2.l.length ≤ s.l.length + 2 * countL l
 types : TypesOk vs r.2
theorem vtype_get {vs : List Ty} {v : Int} {u : Ty} (h : vtype vs v = some u) : 0 ≤ v ∧ vs[v.toNat]? = some u := by
 unfold vtype at h
 split at h
 ·exact ⟨by assumption, h⟩
 ·cases h
mutual
theorem build_ok (vs : List Ty) (is : List Nat) (e : Int → Nat) (he : ∀ v u, vtype vs v = some u → e v = is.getD v.toNat 0) :
  ∀ (x : Tree) (s : TPool) (D : Int → Nat), Good e s D → TypesOk vs s → ((typeX vs x).2 = true → Built vs e s D (buildF vs x s) (countX x) (typeX vs x).1 (evalX vs is x)) ∧ ((typeX vs x).2 = false → (buildF vs x s).1.2 ≠ 0 ∧ (buildF vs x s).1.1 = 0)
 | .mk op t num v kids, s, D, h, hT => by
  rw [buildF, typeX, evalX, countX]
  by_cases h1 : op = sNum
  ·rw [if_pos h1, if_pos h1, if_pos h1]
   refine ⟨fun hr => (num_done h hr num).built hT (by omega), fun hr => ?_⟩
   have hr : rightF t = false := hr
   unfold NumF
   rw [hr, if_neg Bool.false_ne_true]
   exact ⟨by simp, rfl⟩
  ·rw [if_neg h1, if_neg h1, if_neg h1]
   by_cases h2 : op = sVar
   ·rw [if_pos h2, if_pos h2, if_pos h2]
    cases hv : vtype vs v with
    | none => exact ⟨fun h => (by cases h), fun _ => ⟨by simp, rfl⟩⟩
    | some u =>
     obtain ⟨v0, vu⟩ := vtype_get hv
     refine ⟨fun hr => ?_, fun hr => ?_⟩
     ·have hok : varOk s u v = true := by
       unfold varOk
       rw [Bool.and_eq_true]
       refine ⟨decide_eq_true v0, ?_⟩
       cases hm : mget s.types v with
       | none => rfl
       | some u' =>
        have := (hT _ _ hm).2
        rw [vu] at this
        simp only [decide_eq_true_iff]
        exact (Option.some.inj this).symm
      obtain ⟨g1, g2, g3, g4⟩ := var_done h hr hok
      refine ⟨g1, ?_, ?_, fun w t' hw => ?_⟩
      ·rw [he v u hv] at g2; exact g2
      ·simp only; omega
      ·simp only at hw
       rw [g4, mget_mput] at hw
       split at hw
       ·rename_i hc
        have hc : v = w := by simpa using hc
        subst hc
        obtain rfl := Option.some.inj hw
        exact ⟨v0, vu⟩
       ·exact hT _ _ hw
     ·have hr : rightF u = false := hr
      simp only
      unfold VarF
      rw [hr, if_neg Bool.false_ne_true]
      exact ⟨by simp, rfl⟩
   ·rw [if_neg h2, if_neg h2, if_neg h2]
    obtain ⟨b1, b2⟩ := build_oks vs is e he kids s D h hT
    simp only
    cases hk : kindsX vs kids with
    | none =>
     have := b2 hk
     rw [if_neg this]
     exact ⟨fun h => (by cases h), fun _ => ⟨this, rfl⟩⟩
    | some kinds =>
     have hB := b1 kinds hk
     rw [if_pos hB.err]
     obtain ⟨D', g1, g2, g3⟩ := hB.out
     have hlast := last_kinds vs hk
     by_cases hc : op = sCast ∧ (buildL vs kids s).1.1.length = 1
     ·rw [if_pos hc]
      obtain ⟨ho, hl⟩ := hc
      obtain ⟨f, hf⟩ := List.length_eq_one_iff.1 hl
      have hkd : kinds = [typeF (buildL vs kids s).2 f] := by rw [← hB.typ, hf]; rfl
      have hin := hB.inn f (by rw [hf]; simp)
      rw [hf] at g3 ⊢
      have hty : typeK op t kinds = (t, rightF t) := by
       unfold typeK
       rw [hkd, if_neg (by simp)]
       simp only
       rw [if_pos ho]
       simp
      have hev : evalK op t (lastX vs kids) (evalL vs is kids) = castF (typeF (buildL vs kids s).2 f) t (D' f) := by
       unfold evalK
       rw [if_pos ho, ← g3, hlast, hkd]
       rfl
      simp only
      rw [hty, hev]
      refine ⟨fun hr => ?_, fun hr => ?_⟩
      ·have hd := cast_done g1 hr hin
       obtain ⟨D2, q1, q2, q3⟩ := hd.came.out
       exact ⟨hd.err, ⟨⟨D2, q1, g2.trans q2, q3⟩, hd.came.inn, hd.came.typ⟩, by have := hd.len; have := hB.len; simp only [List.headD_cons] at *; omega, hB.types.of hd.types⟩
      ·have hr : rightF t = false := hr
       unfold CastF
       rw [List.headD_cons, if_pos hin, hr, if_neg Bool.false_ne_true]
       exact ⟨by simp, rfl⟩
     ·rw [if_neg hc]
      have hrr : ∀ k ∈ (buildL vs kids s).1.1, rightF (typeF (buildL vs kids s).2 k) = true := fun k hk => g1.right (hB.inn k hk)
      obtain ⟨k1, k2⟩ := typeK_op t hrr hc
      rw [hB.typ] at k1 k2
      simp only
      rw [k1]
      refine ⟨fun hr => ?_, fun hr => ?_⟩
      ·have hd := do_done g1 hB.inn hr
       obtain ⟨D2, q1, q2, q3⟩ := hd.came.out
       have hl : lastX vs kids = lastTy (buildL vs kids s).2 (buildL vs kids s).1.1 := by rw [hlast, ← hB.typ, last_map (typed_ne hr)]
       rw [hl, ← g3, evalK_op t (fun k hk => g1.lt (hB.inn k hk)) hr, k2 hr]
       exact ⟨hd.err, ⟨⟨D2, q1, g2.trans q2, q3⟩, hd.came.inn, hd.came.typ⟩, by have := hd.len; have := hB.len; omega, hB.types.of hd.types⟩
      ·rw [typed_in hB.inn hr]
       exact ⟨by simp, rfl⟩
theorem build_oks (vs : List Ty) (is : List Nat) (e : Int → Nat) (he : ∀ v u, vtype vs v = some u → e v = is.getD v.toNat 0) :
  ∀ (l : List Tree) (s : TPool) (D : Int → Nat), Good e s D → TypesOk vs s → (∀ kinds, kindsX vs l = some kinds → BuiltL vs is e s D (buildL vs l s) l kinds) ∧ (kindsX vs l = none → (buildL vs l s).1.2 ≠ 0)
 | [], s, D, h, hT => by
  rw [buildL, kindsX]
  refine ⟨fun kinds hk => ?_, fun h => by cases h⟩
  obtain rfl := Option.some.inj hk
  exact ⟨rfl, ⟨D, h, Grow.refl _ _, by rw [evalL]; rfl⟩, fun k hk => by simp at hk, rfl, by simp, hT⟩
 | x :: r, s, D, h, hT => by
  rw [buildL, kindsX]
  obtain ⟨a1, a2⟩ := build_ok vs is e he x s D h hT
  cases hx : (typeX vs x).2 with
  | false =>
   have := (a2 hx).1
   simp only
   rw [if_neg this]
   exact ⟨fun kinds hk => by simp at hk, fun _ => this⟩
  | true =>
   have hA := a1 hx
   obtain ⟨D1, p1, p2, p3⟩ := hA.came.out
   obtain ⟨b1, b2⟩ := build_oks vs is e he r (buildF vs x s).2 D1 p1 hA.types
   simp only
   rw [if_pos hA.err, if_pos trivial]
   refine ⟨fun kinds hk => ?_, fun hk => b2 (Option.map_eq_none_iff.1 hk)⟩
   obtain ⟨ks, hks, rfl⟩ := Option.map_eq_some_iff.1 hk
   have hB := b1 ks hks
   obtain ⟨D', g1, g2, g3⟩ := hB.out
   refine ⟨hB.err, ⟨D', g1, p2.trans g2, ?_⟩, fun k hk => ?_, ?_, ?_, hB.types⟩
   ·rw [List.map_cons, evalL, g3, g2.den _ hA.came.inn, p3]
   ·rcases List.mem_cons.1 hk with rfl | hk
    ·exact g2.inp hA.came.inn
    ·exact hB.inn k hk
   ·rw [List.map_cons, g2.typ hA.came.inn, hA.came.typ, hB.typ]
   ·have q1 := hA.len
    have q2 := hB.len
    rw [countL]
    show (buildL vs r (buildF vs x s).2).2.l.length ≤ _
    omega
end
end TmW
end Go.Proofs.YtbbajekecppioaaGreatDoor
/- A value as one of a wider type, and back. No walk. -/
namespace Go.Proofs.YtbbajekecppioaaGreatDoor
open Go.RowKit Go.Mem Go.Wd Go.Tp
namespace TmW
theorem cast_bool {t : Ty} (h : rightF t = true) {v : Nat} (hv : v < 2 ^ wid t) : castF t (1, false) v = min v 1 := by
  unfold castF
  rw [h, right_bool, Bool.and_self, if_pos rfl, if_pos rfl, norm_of_lt h hv]
/-- What a number as one with a sign is, as a number. -/
theorem cast_mod {t u : Ty} (ht : rightF t = true) (hu : rightF u = true) (v : Nat) : normF u (ofI (intF t v)) = ofI (sv t v) % 2 ^ wid u := by
  rw [ofI_int ht]
  unfold normF
  rw [if_pos hu]
theorem sv_low {t : Ty} (ht : rightF t = true) {n : Nat} (hn : n ≤ wid t) (v : Nat) : ofI (sv t v) % 2 ^ n = v % 2 ^ n := by
  have hd : (2 : Nat) ^ n ∣ 2 ^ wid t := Nat.pow_dvd_pow 2 hn
  have h1 := ofI_mod (wid_le ht).2 (sv t v)
  rw [sv_mod] at h1
  have h2 : ofI (sv t v) % 2 ^ wid t = v % 2 ^ wid t := by exact_mod_cast h1
  have h3 := congrArg (· % 2 ^ n) h2
  simp only [Nat.mod_mod_of_dvd _ hd] at h3
  exact h3
theorem wid_bool1 {t : Ty} (h : rightF t = true) (hw : t.1 = 1) : wid t = 1 := by unfold wid; omega
theorem cast_back {t u : Ty} (ht : rightF t = true) (hu : rightF u = true) {v : Nat} (hv : v < 2 ^ wid t) (hle : t.1 ≤ u.1) : castF u t (castF t u v) = v := by
  have hwl : wid t ≤ wid u := by unfold wid; omega
  by_cases hu1 : u.1 = 1
  · have ht1 : t.1 = 1 := by
      rcases right_iff.1 ht with rfl | rfl | rfl | rfl | rfl | rfl | rfl | rfl | rfl <;> first | rfl | (exfalso; revert hle; rw [hu1]; decide)
    obtain rfl := (right_one ht).1 ht1
    obtain rfl := (right_one hu).1 hu1
    rw [castF_same right_bool hv, castF_same right_bool hv]
  · have hmid : castF t u v = ofI (sv t v) % 2 ^ wid u := by
      rw [← cast_mod ht hu]
      unfold castF
      rw [ht, hu, Bool.and_self, if_pos rfl, if_neg hu1]
    have hlt : castF t u v < 2 ^ wid u := castF_ltw hu _
    have hlow : castF t u v % 2 ^ wid t = v := by
      rw [hmid, Nat.mod_mod_of_dvd _ (Nat.pow_dvd_pow 2 hwl), sv_low ht (Nat.le_refl _), Nat.mod_eq_of_lt hv]
    by_cases ht1 : t.1 = 1
    · obtain rfl := (right_one ht).1 ht1
      rw [cast_bool hu hlt]
      have hv01 := bool_lt hv
      have : castF (1, false) u v = v := by
        rw [hmid]
        have hs : sv (1, false) v = v := by
          rcases hv01 with rfl | rfl <;> decide
        rw [hs, ofI_nat (by rcases hv01 with rfl | rfl <;> decide)]
        exact Nat.mod_eq_of_lt (Nat.lt_of_lt_of_le hv (Nat.pow_le_pow_right (by decide) hwl))
      rw [this]
      rcases hv01 with rfl | rfl <;> decide
    · have : castF u t (castF t u v) = ofI (sv u (castF t u v)) % 2 ^ wid t := by
        rw [← cast_mod hu ht]
        generalize castF t u v = y
        unfold castF
        rw [ht, hu, Bool.and_self, if_pos rfl, if_neg ht1]
      rw [this, sv_low hu hwl, hlow]
end TmW
end Go.Proofs.YtbbajekecppioaaGreatDoor
/- Trees in memory; how many nodes one has, walked. -/
namespace Go.Proofs.YtbbajekecppioaaGreatDoor
open Go.RowKit Go.Mem Go.Wd Go.Tp
namespace RfW
open TmW (frm_alloc frm_then Box wrap_nat64 frm_cellD frm_cell negE eqS countX countL typeX kindsX typeK evalX evalL evalK lastX noTy vtype is64)
def xcells (op : ByteArray) (t : Ty) (num : Nat) (v : Int) (gl : Bool) (ln cl : Int) (kv : Value) : Array Value := #[.string op, .int .i64 t.1, .bool t.2, .int .u64 num, .int .i64 v, .bool gl, .int .i64 ln, .int .i64 cl, kv]
mutual
/-- A tree's cells lie there, all below a block. -/
def TreeAt (w : World) (lim : Nat) : Nat → Nat → Tree → Prop
  | g, o, .mk op t num v kids => g < lim ∧ num < 2 ^ 64 ∧ op.size ≤ 140737488355328 ∧ (is64 t.1 ∧ is64 v) ∧ ∃ gl ln cl A c, (∀ j x, (xcells op t num v gl ln cl (.slice A kids.length c))[j]? = some x → w.cell? ⟨g, o + j, none⟩ = some x) ∧ kids.length ≤ maxLen ∧ KidsAt w lim A 0 kids
def KidsAt (w : World) (lim : Nat) : Option Addr → Nat → List Tree → Prop
  | _, _, [] => True
  | A, i, x :: r => (∃ g o, A = some ⟨g, o, none⟩ ∧ TreeAt w lim g (o + i * 9) x) ∧ KidsAt w lim A (i + 1) r
end
/-- A tree as a value. -/
def TreeV (w : World) (lim : Nat) (val : Value) : Tree → Prop
  | .mk op t num v kids => num < 2 ^ 64 ∧ op.size ≤ 140737488355328 ∧ (is64 t.1 ∧ is64 v) ∧ ∃ gl ln cl A c, val = .agg (xcells op t num v gl ln cl (.slice A kids.length c)) ∧ kids.length ≤ maxLen ∧ KidsAt w lim A 0 kids
mutual
theorem TreeAt.frm {w w' : World} {lim : Nat} (h : ∀ b, b < lim → b < w.heap.size → w'.heap[b]? = w.heap[b]?) : ∀ {g o : Nat} {x : Tree}, TreeAt w lim g o x → TreeAt w' lim g o x
  | g, o, .mk op t num v kids, ⟨h1, h2, h3, h4, gl, ln, cl, A, c, h5, h6, h7⟩ => by
    refine ⟨h1, h2, h3, h4, gl, ln, cl, A, c, fun j x hx => ?_, h6, KidsAt.frm h h7⟩
    have := h5 j x hx
    rw [World.cell?_of_block (w := w) (h g h1 (World.block_lt_of_cell? _ _ this))]
    exact this
theorem KidsAt.frm {w w' : World} {lim : Nat} (h : ∀ b, b < lim → b < w.heap.size → w'.heap[b]? = w.heap[b]?) : ∀ {A : Option Addr} {i : Nat} {l : List Tree}, KidsAt w lim A i l → KidsAt w' lim A i l
  | _, _, [], _ => trivial
  | A, i, x :: r, ⟨⟨g, o, e, h1⟩, h2⟩ => ⟨⟨g, o, e, TreeAt.frm h h1⟩, KidsAt.frm h h2⟩
end
theorem KidsAt.frm0 {w w' : World} {lim : Nat} {A : Option Addr} {i : Nat} {l : List Tree} (h : KidsAt w lim A i l) (hf : Frm (fun _ => False) w w') : KidsAt w' lim A i l := KidsAt.frm (fun b _ hb => hf.block b hb id) h
theorem KidsAt.get {w : World} {lim : Nat} {A : Option Addr} : ∀ {i : Nat} {l : List Tree}, KidsAt w lim A i l → ∀ {k : Nat} {x : Tree}, l[k]? = some x → ∃ g o, A = some ⟨g, o, none⟩ ∧ TreeAt w lim g (o + (i + k) * 9) x
  | _, [], _, k, x, h => by simp at h
  | i, y :: r, ⟨h1, h2⟩, 0, x, h => by
    simp only [List.getElem?_cons_zero, Option.some.injEq] at h
    subst h
    exact h1
  | i, y :: r, ⟨h1, h2⟩, k + 1, x, h => by
    have := KidsAt.get h2 (k := k) (x := x) (by simpa using h)
    rw [show i + 1 + k = i + (k + 1) by omega] at this
    exact this
/-- A tree's cells, loaded, are a tree. -/
theorem TreeAt.load {w : World} {lim g o : Nat} {x : Tree} (h : TreeAt w lim g o x) : ∃ a0 a1 a2 a3 a4 a5 a6 a7 a8, TreeV w lim (.agg #[a0, a1, a2, a3, a4, a5, a6, a7, a8]) x ∧ w.cell? ⟨g, o, none⟩ = some a0 ∧ w.cell? ⟨g, o + 1, none⟩ = some a1 ∧ w.cell? ⟨g, o + 2, none⟩ = some a2 ∧ w.cell? ⟨g, o + 3, none⟩ = some a3 ∧ w.cell? ⟨g, o + 4, none⟩ = some a4 ∧ w.cell? ⟨g, o + 5, none⟩ = some a5 ∧ w.cell? ⟨g, o + 6, none⟩ = some a6 ∧ w.cell? ⟨g, o + 7, none⟩ = some a7 ∧ w.cell? ⟨g, o + 8, none⟩ = some a8 := by
  obtain ⟨op, t, num, v, kids⟩ := x
  obtain ⟨h1, h2, h3, h4, gl, ln, cl, A, c, h5, h6, h7⟩ := h
  exact ⟨_, _, _, _, _, _, _, _, _, ⟨h2, h3, h4, gl, ln, cl, A, c, rfl, h6, h7⟩, h5 0 _ rfl, h5 1 _ rfl, h5 2 _ rfl, h5 3 _ rfl, h5 4 _ rfl, h5 5 _ rfl, h5 6 _ rfl, h5 7 _ rfl, h5 8 _ rfl⟩
theorem countL_mem {l : List Tree} {k : Nat} {x : Tree} (h : l[k]? = some x) : countX x ≤ countL l := by
  induction l generalizing k with
  | nil => simp at h
  | cons y r ih =>
    rw [countL]
    cases k with
    | zero => simp only [List.getElem?_cons_zero, Option.some.injEq] at h; subst h; omega
    | succ k => have := ih (k := k) (by simpa using h); omega
theorem countL_take {l : List Tree} : ∀ {k : Nat} {x : Tree}, l[k]? = some x → countL (l.take (k + 1)) = countL (l.take k) + countX x := by
  induction l with
  | nil => intro k x h; simp at h
  | cons y r ih =>
    intro k x h
    cases k with
    | zero =>
      simp only [List.getElem?_cons_zero, Option.some.injEq] at h; subst h
      simp [countL]
    | succ k =>
      have := ih (k := k) (x := x) (by simpa using h)
      simp only [List.take_succ_cons, countL, this]
      omega
theorem countL_le {l : List Tree} (k : Nat) : countL (l.take k) ≤ countL l := by
  induction l generalizing k with
  | nil => simp
  | cons y r ih =>
    cases k with
    | zero => simp [countL]
    | succ k => have := ih k; simp only [List.take_succ_cons, countL]; omega
set_option maxRecDepth 100000 in
set_option maxHeartbeats 1000000 in
theorem Count_calls (lim : Nat) : ∀ (n : Nat) (x : Tree), countX x ≤ n → n ≤ 4194304 → ∀ (w : World) (val : Value), TreeV w lim val x →
    Calls Tryz.prog 17 #[val] w fun e w' => e = .returned (.int .i64 (countX x : Nat)) ∧ Frm (fun _ => False) w w'
  | 0, .mk .., h, _, _, _, _ => by rw [countX] at h; omega
  | n + 1, .mk op t num v kids, h, hn, w, val, hv => by
    obtain ⟨_, _, _, gl, ln, cl, A, c, rfl, hkl, hk⟩ := hv
    rw [countX] at h ⊢
    have IH := Lib.hid fun x (hx : countX x ≤ n) w1 val hval => Count_calls lim n x hx (by omega) w1 val hval
    have hF := Lib.hid (frm_alloc w (.cells (xcells op t num v gl ln cl (.slice A kids.length c)) 27))
    have HB := Lib.hid (blk_new (w := w) (.cells (xcells op t num v gl ln cl (.slice A kids.length c)) 27))
    have HK := Lib.hid hk
    have Hkl := Lib.hid (show kids.length ≤ 9223372036854775807 from hkl)
    have Hn := Lib.hid (show countL kids ≤ n ∧ n ≤ 4194304 from ⟨by omega, by omega⟩)
    clear hk hkl h hn
    unfold xcells at *
    go_enter Tryz.func17, Tryz.ntmps17
    go_wp2_with fail
    go_loopw [3, 4] (fun v3 v4 w' => ∃ k : Nat, k ≤ kids.length ∧ v4 = .int .i64 k ∧ v3 = .int .i64 ((1 + countL (kids.take k) : Nat) : Int) ∧ Hid (Frm (fun _ => False) w w') ∧ Hid (w'.heap[w.heap.size]? = some (.cells #[.string op, .int .i64 t.1, .bool t.2, .int .u64 num, .int .i64 v, .bool gl, .int .i64 ln, .int .i64 cl, .slice A kids.length c] 27))) (fun _ v4 _ => kids.length - (intOf v4).toNat)
    case atStart => exact ⟨0, Nat.zero_le _, rfl, by simp [countL], hF, HB⟩
    case round =>
      obtain ⟨k, hk, rfl, rfl, HF1, HB1⟩ := hrel
      have b8 := blk_cell HB1.out 8
      have b8 : wr.cell? ⟨w.heap.size, 8, none⟩ = some (.slice A kids.length c) := b8
      by_cases hlt : k < kids.length
      · have hltI : (k : Int) < (kids.length : Int) := by omega
        obtain ⟨x, hx⟩ : ∃ x, kids[k]? = some x := ⟨_, List.getElem?_eq_getElem hlt⟩
        obtain ⟨g, o, rfl, hT⟩ := (HK.out.frm0 HF1.out).get hx
        rw [Nat.zero_add] at hT
        obtain ⟨a0, a1, a2, a3, a4, a5, a6, a7, a8, hV, c0, c1, c2, c3, c4, c5, c6, c7, c8⟩ := hT.load
        have hcx := countL_mem hx
        have hct := countL_take hx
        have hcl := countL_le (l := kids) (k + 1)
        have Hs := Lib.hid (show 1 + countL (kids.take (k + 1)) = 1 + countL (kids.take k) + countX x by omega)
        have hb : 1 + countL (kids.take k) + countX x ≤ 4194306 := by have := Hn.out; omega
        have hkl' := Hkl.out
        have HC := Lib.hid (IH.out x (by have := Hn.out; omega) wr _ hV)
        have Hkk := Lib.hid (show k + 1 ≤ kids.length from hlt)
        clear hT hV hx hcx hct hcl hlt
        generalize 1 + countL (kids.take k) = p at *
        generalize countX x = q at *
        go_wp2_with fail
        refine HC.out.mono ?_
        rintro e w2 ⟨rfl, hf⟩
        have HF2 := Lib.hid (frm_then HF1.out hf)
        have HB2 := Lib.hid (blk_frm HB1.out hf id)
        clear hf
        go_wp2
        go_roundw
        case rel => exact ⟨k + 1, Hkk.out, by first | rfl | go_num, by rw [Hs.out]; first | rfl | go_num, HF2, HB2⟩
        case measure => have := Hkk.out; simp [intOf]; omega
      · have hke : k = kids.length := by omega
        subst hke
        have hltI : ¬ (kids.length : Int) < (kids.length : Int) := by omega
        go_wp2
        go_ret
        exact ⟨by first | rfl | (push_cast; rfl), HF1.out⟩
end RfW
end Go.Proofs.YtbbajekecppioaaGreatDoor
/- Rows of structs (k cells an element) that the program made. -/
namespace Go.Mem
open Go.RowKit
section
variable {α : Type}
/-- How an element lies in its cells. -/
structure Enc (α : Type) (k : Nat) where
  cells : α → List Value
  len : ∀ x, (cells x).length = k
  one : ∀ x, ∀ u ∈ cells x, u.oneCell' = true
def SRow {k : Nat} (w : World) (e : TypeId) (E : Enc α k) (v : Value) (xs : List α) : Prop := w.ownsRow 0 e k v xs.length (xs.flatMap E.cells)
theorem Enc.get {k : Nat} (E : Enc α k) : ∀ (l : List α) (i : Nat) (x : α), l[i]? = some x → ∀ j u, (E.cells x)[j]? = some u → (l.flatMap E.cells)[i * k + j]? = some u
  | [], i, x, h, _, _, _ => by simp at h
  | y :: l, 0, x, h, j, u, hu => by
    simp only [List.getElem?_cons_zero, Option.some.injEq] at h
    subst h
    have hj := (List.getElem?_eq_some_iff.1 hu).1
    simp only [List.flatMap_cons]
    rw [Nat.zero_mul, Nat.zero_add, List.getElem?_append_left hj]
    exact hu
  | y :: l, i + 1, x, h, j, u, hu => by
    have ih := E.get l i x (by simpa using h) j u hu
    have hl := E.len y
    simp only [List.flatMap_cons]
    rw [List.getElem?_append_right (by rw [hl, Nat.succ_mul]; omega), hl, show (i + 1) * k + j - k = i * k + j by rw [Nat.succ_mul]; omega]
    exact ih
theorem SRow.nil {k : Nat} (w : World) (e : TypeId) (E : Enc α k) : SRow w e E (.slice none 0 0) ([] : List α) := ⟨by simp, .inl ⟨rfl, rfl⟩⟩
theorem SRow.frm {k : Nat} {S : Nat → Prop} {w w' : World} {e : TypeId} {E : Enc α k} {v : Value} {xs : List α} (h : SRow w e E v xs) (hf : Frm S w w') (hS : ∀ g, v.ownBlock = some g → ¬ S g) : SRow w' e E v xs := own_frm h hf hS
theorem SRow.frm0 {k : Nat} {w w' : World} {e : TypeId} {E : Enc α k} {v : Value} {xs : List α} (h : SRow w e E v xs) (hf : Frm (fun _ => False) w w') : SRow w' e E v xs := h.frm hf fun _ _ => id
/-- An empty slice of the program's own. -/
theorem SRow.empty {k : Nat} {w : World} {e : TypeId} {E : Enc α k} {g : Nat} (h : w.heap[g]? = some (.cells #[] e (0, 0))) : SRow w e E (.slice (some ⟨g, 0, none⟩) 0 0) ([] : List α) := ⟨by simp, .inr ⟨g, 0, #[], rfl, Nat.zero_le _, h, Nat.zero_le _, Nat.zero_le _, by simp, by simp⟩⟩
theorem SRow.shape {k : Nat} {w : World} {e : TypeId} {E : Enc α k} {v : Value} {xs : List α} (h : SRow w e E v xs) : (v = .slice none 0 0 ∧ xs = []) ∨ ∃ g cap, v = .slice (some ⟨g, 0, none⟩) xs.length cap ∧ v.ownBlock = some g ∧ g < w.heap.size ∧ xs.length ≤ cap ∧ cap ≤ maxLen ∧ (∀ i x j u, xs[i]? = some x → (E.cells x)[j]? = some u → w.cell? ⟨g, i * k + j, none⟩ = some u) ∧ ∀ i, w.frozen? ⟨g, i, none⟩ = false := by
  have hlt := World.ownsRow.lt h
  have hc := fun g => World.ownsRow.cells h (g := g)
  obtain ⟨h1, ⟨rfl, h2⟩ | ⟨g, cap, cur, rfl, hbg, hg, hn, hm, _⟩⟩ := h
  · exact .inl ⟨rfl, List.eq_nil_of_length_eq_zero h2⟩
  · refine .inr ⟨g, cap, rfl, rfl, (hlt g rfl).2, hn, hm, fun i x j u hx hu => ?_, fun i => blk_free hg i⟩
    have k' := hc g rfl _ _ (E.get xs i x hx j u hu)
    simp only [Addr.add] at k'
    by_cases hz : i * k + j = 0
    · rw [if_pos hz] at k'; rw [hz]; exact k'
    · rw [if_neg hz] at k'; simpa using k'
theorem SRow.slice {k : Nat} {w : World} {e : TypeId} {E : Enc α k} {v : Value} {xs : List α} (h : SRow w e E v xs) : ∃ A c, v = .slice A xs.length c ∧ ∀ i x, xs[i]? = some x → ∃ g, A = some ⟨g, 0, none⟩ ∧ g < w.heap.size ∧ ∀ j u, (E.cells x)[j]? = some u → w.cell? ⟨g, i * k + j, none⟩ = some u := by
  rcases h.shape with ⟨rfl, rfl⟩ | ⟨g, cap, rfl, _, hg, _, _, hc, _⟩
  · exact ⟨none, 0, rfl, fun i x h => by simp at h⟩
  · exact ⟨some ⟨g, 0, none⟩, cap, rfl, fun i x hx => ⟨g, rfl, hg, fun j u hu => hc i x j u hx hu⟩⟩
theorem SRow.len {k : Nat} {w : World} {e : TypeId} {E : Enc α k} {v : Value} {xs : List α} (h : SRow w e E v xs) : xs.length ≤ maxLen := by
  rcases h.shape with ⟨_, rfl⟩ | ⟨_, _, _, _, _, h1, h2, _⟩
  · exact Nat.zero_le _
  · omega
theorem SRow.lt {k : Nat} {w : World} {e : TypeId} {E : Enc α k} {v : Value} {xs : List α} (h : SRow w e E v xs) : ∀ g, v.ownBlock = some g → g < w.heap.size := fun g hg => (World.ownsRow.lt h g hg).2
/-- append of one element. -/
theorem wpList_append_srow {P : Program} {w : World} {ops : Array Oper} {rest : List Oper} {o : Oper} {a : Act} {Q : Exit → Act → World → Prop} (hgd : o.guard = none) (s x : Operand) (t : TypeId)
    (ho : o.op = .call { callee := .builtin .append, args := #[s, x], argTypes := #[t, t] })
    (e : TypeId) (i : TypeInfo) (z : Value) (bytes : Nat) {k : Nat} (ht : P.underlying t = some (.slice e)) (hi : P.info? e = some i) (hz : i.zero = some z)
    (hsize : i.size = k) (hby : i.bytes = bytes) (hzs : z.cells.size = k) (hk : 0 < k) {E : Enc α k}
    (v : Value) (xs : List α) (hs : a.eval s = v) (hrow : SRow w e E v xs) (ad : Addr) (c : Nat) (y : α) (hx : a.eval x = .slice (some ad) 1 c) (hc : ∀ j u, (E.cells y)[j]? = some u → w.cell? (ad.add j) = some u)
    (h63 : xs.length + 1 ≤ maxLen) (hbytes : (xs.length + 1) * bytes ≤ 140737488355328)
    (h : ∀ g cap w', SRow w' e E (.slice (some ⟨g, 0, none⟩) (xs.length + 1) cap) (xs ++ [y]) → Frm (fun b => v.ownBlock = some b) w w' → (v.ownBlock = some g ∨ g = w.heap.size) → g < w'.heap.size →
      wpList P ops Q rest (a.put o.dst (.slice (some ⟨g, 0, none⟩) (xs.length + 1) cap)) w') : wpList P ops Q (o :: rest) a w := by
  refine wpList_append_lies w hgd s x t ho 0 e i z k bytes ht hi hz hsize hby hzs hk v xs.length (xs.flatMap E.cells) hs hrow ad 1 c (E.cells y) hx (by rw [E.len]; omega) hc (E.one y) (by decide) h63 hbytes (Nat.zero_le _) _ rfl ?_
  intro g cap w' h1 h2 h3 h4
  refine h g cap w' ?_ (Frm.of_grown h2) h3 h4
  show w'.ownsRow 0 e k _ (xs ++ [y]).length ((xs ++ [y]).flatMap E.cells)
  rw [List.length_append, List.flatMap_append]
  simpa using h1
end
end Go.Mem
