/- The pool's terms and what they are worth. No walk. -/
import Derived.Test.YtbbajekecppioaaGreatDoorGa24
set_option linter.unusedSimpArgs false
set_option linter.unusedVariables false
namespace Go.Proofs.YtbbajekecppioaaGreatDoor
open Go.RowKit Go.Mem Go.Wd Go.Tp
namespace TmW
theorem nth_push {l : List TNode} {n m : TNode} {f : Int} (h : nth l f = some m) : nth (l ++ [n]) f = some m := by
 have hl := nth_lt h
 unfold nth at *
 rw [if_pos hl.1] at *
 rw [List.getElem?_append_left (by omega)]
 exact h
theorem nth_new (l : List TNode) (n : TNode) : nth (l ++ [n]) (l.length : Int) = some n := by
 unfold nth
 rw [if_pos (by omega)]
 simp
theorem nth_push_inv {l : List TNode} {n m : TNode} {f : Int} (h : nth (l ++ [n]) f = some m) : nth l f = some m ∨ (f = l.length ∧ m = n) := by
 have hl := nth_lt h
 rw [List.length_append, List.length_singleton] at hl
 by_cases he : f = l.length
 ·subst he; rw [nth_new] at h; exact .inr ⟨rfl, (Option.some.inj h).symm⟩
 ·obtain ⟨k, hk⟩ := nth_some (l := l) (f := f) ⟨hl.1, by omega⟩
  rw [nth_push hk] at h
  exact .inl (hk.trans h)
theorem in_nth {s : TPool} {f : Int} (h : inP s f = true) : ∃ n, nth s.l f = some n := by
 unfold inP at h
 exact nth_some (of_decide_eq_true h)
theorem in_iff {s : TPool} {f : Int} : inP s f = true ↔ 0 ≤ f ∧ f < s.l.length := by
 unfold inP; exact decide_eq_true_iff
theorem type_of {s : TPool} {f : Int} {n : TNode} (h : nth s.l f = some n) : typeF s f = n.t := by unfold typeF; rw [h]
/-- A node is worth this, where the variables are told. -/
def stepE (e : Int → Nat) (s : TPool) (D : Int → Nat) (n : TNode) : Nat :=
 if n.op = sNum then n.num
 else if n.op = sVar then normF n.t (e n.v)
 else if n.op = sCast then castF (lastTy s n.kids) n.t (D (n.kids.getLastD 0))
 else (applyF n.op (lastTy s n.kids) (n.kids.map D)).1
inductive Shape (s : TPool) (n : TNode) : Prop
 | num (ho : n.op = sNum) (hv : n.v = 0) (hk : n.kids = []) (hr : rightF n.t = true) (hn : n.num < 2 ^ wid n.t)
 | var (ho : n.op = sVar) (hn : n.num = 0) (hv : 0 ≤ n.v) (hk : n.kids = []) (hr : rightF n.t = true)
 | cast (k : Int) (ho : n.op = sCast) (hn : n.num = 0) (hv : n.v = 0) (hk : n.kids = [k]) (hr : rightF n.t = true)
 | op (ho : typedOk s n.op n.kids = true) (ht : n.t = resultF n.op (lastTy s n.kids)) (hn : n.num = 0) (hv : n.v = 0)
structure Good (e : Int → Nat) (s : TPool) (D : Int → Nat) : Prop where
 shape : ∀ f n, nth s.l f = some n → Shape s n
 kids : ∀ f n, nth s.l f = some n → ∀ k ∈ n.kids, 0 ≤ k ∧ k < f
 den : ∀ f n, nth s.l f = some n → D f = stepE e s D n
 find : ∀ key f, mget s.find key = some f → ∃ n, nth s.l f = some n ∧ keyF n = key
 has : ∀ f n, nth s.l f = some n → mget s.find (keyF n) = some f
 vart : ∀ f n, nth s.l f = some n → n.op = sVar → mget s.types n.v = some n.t
structure Grow (s : TPool) (D : Int → Nat) (s' : TPool) (D' : Int → Nat) : Prop where
 nth : ∀ f n, nth s.l f = some n → nth s'.l f = some n
 den : ∀ f, inP s f = true → D' f = D f
theorem Grow.refl (s : TPool) (D : Int → Nat) : Grow s D s D := ⟨fun _ _ h => h, fun _ _ => rfl⟩
theorem Grow.inp {s s' : TPool} {D D' : Int → Nat} (h : Grow s D s' D') {f : Int} (hf : inP s f = true) : inP s' f = true := by
 obtain ⟨n, hn⟩ := in_nth hf
 exact nth_in (h.nth _ _ hn)
theorem Grow.trans {s s' s2 : TPool} {D D' D2 : Int → Nat} (h : Grow s D s' D') (h2 : Grow s' D' s2 D2) : Grow s D s2 D2 :=
 ⟨fun f n hn => h2.nth f n (h.nth f n hn), fun f hf => (h2.den f (h.inp hf)).trans (h.den f hf)⟩
theorem Grow.typ {s s' : TPool} {D D' : Int → Nat} (h : Grow s D s' D') {f : Int} (hf : inP s f = true) : typeF s' f = typeF s f := by
 obtain ⟨n, hn⟩ := in_nth hf
 rw [type_of hn, type_of (h.nth _ _ hn)]
theorem typedOk_inv {s : TPool} {op : ByteArray} {l : List Int} (h : typedOk s op l = true) :
  (∃ a, l = [a] ∧ (applyF op (typeF s a) [0]).2 = 0) ∨ (∃ a b, l = [a, b] ∧ typeF s a = typeF s b ∧ (applyF op (typeF s b) [0, 0]).2 = 0) ∨ (∃ c a b, l = [c, a, b] ∧ op = sIte ∧ typeF s c = (1, false) ∧ typeF s a = typeF s b) := by
 unfold typedOk at h
 split at h
 ·rename_i a
  simp only [Bool.and_eq_true, beq_iff_eq] at h
  exact .inl ⟨a, rfl, h.2⟩
 ·rename_i a b
  simp only [Bool.and_eq_true, beq_iff_eq, allTy, List.all_cons, List.all_nil, decide_eq_true_eq, and_true] at h
  exact .inr (.inl ⟨a, b, rfl, h.1, h.2⟩)
 ·rename_i c a b
  split at h
  ·rename_i ho
   simp only [Bool.and_eq_true, beq_iff_eq, allTy, List.all_cons, List.all_nil, decide_eq_true_eq, and_true] at h
   exact .inr (.inr ⟨c, a, b, rfl, ho, h.1, h.2.1⟩)
  ·rename_i ho
   simp only [Bool.and_eq_true, beq_iff_eq] at h
   have := h.2
   rw [applyF3, if_neg ho] at this
   simp at this
 ·cases h
theorem typed_ne {s : TPool} {op : ByteArray} {l : List Int} (h : typedOk s op l = true) : l ≠ [] := by rintro rfl; cases h
theorem last_mem {l : List Int} (h : l ≠ []) : l.getLastD 0 ∈ l := by
 rw [List.getLastD_eq_getLast?, List.getLast?_eq_some_getLast h]
 exact List.getLast_mem h
theorem Grow.last {s s' : TPool} {D D' : Int → Nat} (h : Grow s D s' D') {l : List Int} (hl : l ≠ []) (hk : ∀ k ∈ l, inP s k = true) : lastTy s' l = lastTy s l := h.typ (hk _ (last_mem hl))
theorem Grow.typed {s s' : TPool} {D D' : Int → Nat} (h : Grow s D s' D') {op : ByteArray} {l : List Int} (hk : ∀ k ∈ l, inP s k = true) : typedOk s' op l = typedOk s op l := by
 unfold typedOk allTy
 split
 ·rename_i a; simp only [h.typ (hk a (by simp)), List.all_cons, List.all_nil]
 ·rename_i a b; simp only [h.typ (hk a (by simp)), h.typ (hk b (by simp)), List.all_cons, List.all_nil]
 ·rename_i c a b; simp only [h.typ (hk a (by simp)), h.typ (hk b (by simp)), h.typ (hk c (by simp)), List.all_cons, List.all_nil]
 ·rfl
theorem Grow.shape {s s' : TPool} {D D' : Int → Nat} (h : Grow s D s' D') {n : TNode} (hk : ∀ k ∈ n.kids, inP s k = true) (hs : Shape s n) : Shape s' n := by
 cases hs with
 | num ho hv hk' hr hn => exact .num ho hv hk' hr hn
 | var ho hn hv hk' hr => exact .var ho hn hv hk' hr
 | cast k ho hn hv hk' hr => exact .cast k ho hn hv hk' hr
 | op ho ht hn hv => exact .op ((h.typed hk).trans ho) (by rw [ht, h.last (typed_ne ho) hk]) hn hv
theorem map_den {D D' : Int → Nat} {l : List Int} (h : ∀ k ∈ l, D' k = D k) : l.map D' = l.map D := List.map_congr_left h
theorem Grow.step {s s' : TPool} {D D' : Int → Nat} (h : Grow s D s' D') (e : Int → Nat) {n : TNode} (hk : ∀ k ∈ n.kids, inP s k = true) (hs : Shape s n) : stepE e s' D' n = stepE e s D n := by
 unfold stepE
 by_cases h1 : n.op = sNum
 ·rw [if_pos h1, if_pos h1]
 ·rw [if_neg h1, if_neg h1]
  by_cases h2 : n.op = sVar
  ·rw [if_pos h2, if_pos h2]
  ·rw [if_neg h2, if_neg h2]
   have hne : n.kids ≠ [] := by
    cases hs with
    | num ho => exact absurd ho h1
    | var ho => exact absurd ho h2
    | cast k ho hn hv hk' hr => rw [hk']; simp
    | op ho => exact typed_ne ho
   rw [h.last hne hk, h.den _ (hk _ (last_mem hne)), map_den fun k hk' => h.den k (hk k hk')]
/-- What an operation is worth keeps to its type. -/
theorem op_val {s : TPool} {D : Int → Nat} {op : ByteArray} {l : List Int} (h : typedOk s op l = true) (hb : ∀ k ∈ l, D k < 2 ^ wid (typeF s k) ∧ rightF (typeF s k) = true) :
  (applyF op (lastTy s l) (l.map D)).1 < 2 ^ wid (resultF op (lastTy s l)) ∧ rightF (resultF op (lastTy s l)) = true ∧ op ∈ opNames := by
 rcases typedOk_inv h with ⟨a, rfl, h'⟩ | ⟨a, b, rfl, ht, h'⟩ | ⟨c, a, b, rfl, rfl, hc, ht⟩
 ·obtain ⟨hr, hm, hb1⟩ := typed1 h'
  have hres : resultF op (typeF s a) = typeF s a := result_else (by simp only [List.mem_cons, List.not_mem_nil, or_false] at hm; rcases hm with rfl | rfl | rfl <;> decide) (by simp only [List.mem_cons, List.not_mem_nil, or_false] at hm; rcases hm with rfl | rfl | rfl <;> simp [tests])
  show (applyF op (typeF s a) [D a]).1 < 2 ^ wid (resultF op (typeF s a)) ∧ rightF (resultF op (typeF s a)) = true ∧ _
  rw [hres]
  refine ⟨?_, hr, ?_⟩
  ·rw [hb1]
   unfold turnF
   rw [if_pos hr]
   split
   ·exact norm_lt _ hr
   ·split
    ·exact norm_lt _ hr
    ·exact Nat.two_pow_pos _
  ·simp only [List.mem_cons, List.not_mem_nil, or_false] at hm
   rcases hm with rfl | rfl | rfl <;> simp [opNames]
 ·have h2 := typed2 h'
  have := two_val h2 (a := D a) (b := D b) (by rw [← ht]; exact (hb a (by simp)).1) (hb b (by simp)).1
  exact ⟨this.1, this.2, typed2_name h2⟩
 ·have hres : resultF sIte (typeF s b) = typeF s b := result_else (by decide) (by simp [tests])
  show (applyF sIte (typeF s b) [D c, D a, D b]).1 < 2 ^ wid (resultF sIte (typeF s b)) ∧ rightF (resultF sIte (typeF s b)) = true ∧ _
  rw [hres, applyF3, if_pos rfl]
  refine ⟨?_, (hb b (by simp)).2, by simp [opNames]⟩
  show (if D c = 1 then D a else D b) < _
  split
  ·rw [← ht]; exact (hb a (by simp)).1
  ·exact (hb b (by simp)).1
theorem castF_ltw {u t : Ty} (ht : rightF t = true) (v : Nat) : castF u t v < 2 ^ wid t := by
 unfold castF
 split
 ·split
  ·have := wid_pos ht; omega
  ·exact norm_lt _ ht
 ·exact Nat.two_pow_pos _
theorem stepE_val {e : Int → Nat} {s : TPool} {D : Int → Nat} {n : TNode} (hs : Shape s n) (hb : ∀ k ∈ n.kids, D k < 2 ^ wid (typeF s k) ∧ rightF (typeF s k) = true) : stepE e s D n < 2 ^ wid n.t ∧ rightF n.t = true := by
 unfold stepE
 cases hs with
 | num ho hv hk hr hn => rw [if_pos ho]; exact ⟨hn, hr⟩
 | var ho hn hv hk hr => rw [ho, if_neg (by decide), if_pos rfl]; exact ⟨norm_lt _ hr, hr⟩
 | cast k ho hn hv hk hr => rw [ho, if_neg (by decide), if_neg (by decide), if_pos rfl]; exact ⟨castF_ltw hr _, hr⟩
 | op ho ht hn hv =>
  obtain ⟨h1, h2, h3⟩ := op_val ho hb
  obtain ⟨n1, n2, n3⟩ := name_not _ h3
  rw [if_neg n1, if_neg n2, if_neg n3, ht]
  exact ⟨h1, h2⟩
theorem Good.bnd {e : Int → Nat} {s : TPool} {D : Int → Nat} (h : Good e s D) : ∀ (m : Nat) (f : Int), f < m → inP s f = true → D f < 2 ^ wid (typeF s f) ∧ rightF (typeF s f) = true
 | 0, f, hm, hf => by have := in_iff.1 hf; omega
 | m + 1, f, hm, hf => by
  obtain ⟨n, hn⟩ := in_nth hf
  have hl := nth_lt hn
  rw [type_of hn, h.den _ _ hn]
  refine stepE_val (h.shape _ _ hn) fun k hk => ?_
  have := h.kids _ _ hn k hk
  exact Good.bnd h m k (by omega) (in_iff.2 ⟨this.1, by omega⟩)
theorem Good.lt {e : Int → Nat} {s : TPool} {D : Int → Nat} (h : Good e s D) {f : Int} (hf : inP s f = true) : D f < 2 ^ wid (typeF s f) := (h.bnd (f.toNat + 1) f (by omega) hf).1
theorem Good.right {e : Int → Nat} {s : TPool} {D : Int → Nat} (h : Good e s D) {f : Int} (hf : inP s f = true) : rightF (typeF s f) = true := (h.bnd (f.toNat + 1) f (by omega) hf).2
theorem Good.kin {e : Int → Nat} {s : TPool} {D : Int → Nat} (h : Good e s D) {f : Int} {n : TNode} (hn : nth s.l f = some n) : ∀ k ∈ n.kids, inP s k = true := fun k hk => by
 have := h.kids _ _ hn k hk
 have := nth_lt hn
 exact in_iff.2 (by omega)
theorem shape_key {e : Int → Nat} {s : TPool} {D : Int → Nat} (h : Good e s D) {n : TNode} (hs : Shape s n) (hk : ∀ k ∈ n.kids, inP s k = true) : KeyOk n := by
 have hb : ∀ k ∈ n.kids, D k < 2 ^ wid (typeF s k) ∧ rightF (typeF s k) = true := fun k hk' => ⟨h.lt (hk k hk'), h.right (hk k hk')⟩
 refine ⟨?_, (stepE_val (e := e) hs hb).2, ?_, fun k hk' => (in_iff.1 (hk k hk')).1⟩
 ·cases hs with
  | num ho => rw [ho]; decide
  | var ho => rw [ho]; decide
  | cast k ho => rw [ho]; decide
  | op ho => exact name_colon _ (op_val ho hb).2.2
 ·cases hs with
  | num ho hv => omega
  | var ho hn hv => exact hv
  | cast k ho hn hv => omega
  | op ho ht hn hv => omega
/-- What comes of a node. -/
structure Came (e : Int → Nat) (s : TPool) (D : Int → Nat) (s' : TPool) (f : Int) (t : Ty) (v : Nat) : Prop where
 out : ∃ D', Good e s' D' ∧ Grow s D s' D' ∧ D' f = v
 inn : inP s' f = true
 typ : typeF s' f = t
theorem node_came {e : Int → Nat} {s : TPool} {D : Int → Nat} (h : Good e s D) (n : TNode) (hk : ∀ k ∈ n.kids, inP s k = true) (hs : Shape s n) (hvt : n.op = sVar → mget s.types n.v = some n.t) :
  Came e s D (nodeF s n).2 (nodeF s n).1 n.t (stepE e s D n) ∧ (nodeF s n).2.l.length ≤ s.l.length + 1 ∧ nth (nodeF s n).2.l (nodeF s n).1 = some n ∧ (nodeF s n).2.types = s.types := by
 unfold nodeF
 cases hm : mget s.find (keyF n) with
 | some f =>
  obtain ⟨m, hm1, hm2⟩ := h.find _ _ hm
  have hmn : m = n := key_inj (shape_key h (h.shape _ _ hm1) (h.kin hm1)) (shape_key h hs hk) hm2
  subst hmn
  exact ⟨⟨⟨D, h, Grow.refl _ _, h.den _ _ hm1⟩, nth_in hm1, type_of hm1⟩, by simp, hm1, rfl⟩
 | none =>
  refine ⟨⟨⟨fun f => if f = s.l.length then stepE e s D n else D f, ?_, ?_, by simp⟩, ?_, ?_⟩, by simp, nth_new _ _, rfl⟩
  ·have hG : Grow s D { s with l := s.l ++ [n], find := mput s.find (keyF n) (s.l.length : Int) } (fun f => if f = s.l.length then stepE e s D n else D f) :=
    ⟨fun f m hm => nth_push hm, fun f hf => if_neg (by have := in_iff.1 hf; omega)⟩
   refine ⟨fun f m hf => ?_, fun f m hf k hk' => ?_, fun f m hf => ?_, fun key f hf => ?_, fun f m hf => ?_, fun f m hf ho => ?_⟩
   ·rcases nth_push_inv hf with hf | ⟨rfl, rfl⟩
    ·exact hG.shape (h.kin hf) (h.shape _ _ hf)
    ·exact hG.shape hk hs
   ·rcases nth_push_inv hf with hf | ⟨rfl, rfl⟩
    ·exact h.kids _ _ hf k hk'
    ·exact in_iff.1 (hk k hk')
   ·rcases nth_push_inv hf with hf | ⟨rfl, rfl⟩
    ·rw [hG.step e (h.kin hf) (h.shape _ _ hf), ← h.den _ _ hf]
     exact hG.den f (nth_in hf)
    ·rw [hG.step e hk hs]; simp
   ·simp only [mget_mput] at hf
    split at hf
    ·rename_i hc
     obtain rfl := Option.some.inj hf
     exact ⟨n, nth_new _ _, by simpa using hc⟩
    ·obtain ⟨m, h1, h2⟩ := h.find _ _ hf
     exact ⟨m, nth_push h1, h2⟩
   ·show mget (mput s.find (keyF n) _) (keyF m) = _
    rw [mget_mput]
    rcases nth_push_inv hf with hf | ⟨rfl, rfl⟩
    ·have hh := h.has _ _ hf
     split
     ·rename_i hc
      have hc : keyF n = keyF m := by simpa using hc
      rw [← hc, hm] at hh
      cases hh
     ·exact hh
    ·rw [if_pos (by simp)]
   ·rcases nth_push_inv hf with hf | ⟨rfl, rfl⟩
    ·exact h.vart _ _ hf ho
    ·exact hvt ho
  ·exact ⟨fun f m hm => nth_push hm, fun f hf => if_neg (by have := in_iff.1 hf; omega)⟩
  ·exact in_iff.2 ⟨by simp, by simp; omega⟩
  ·exact type_of (nth_new _ _)
end TmW
end Go.Proofs.YtbbajekecppioaaGreatDoor
/- What the simplifications give is worth what the operation is. No walk. -/
namespace Go.Proofs.YtbbajekecppioaaGreatDoor
open Go.RowKit Go.Mem Go.Wd Go.Tp
namespace TmW
theorem self_came {e : Int → Nat} {s : TPool} {D : Int → Nat} (h : Good e s D) {f : Int} (hf : inP s f = true) : Came e s D s f (typeF s f) (D f) := ⟨⟨D, h, Grow.refl _ _, rfl⟩, hf, rfl⟩
theorem num_came {e : Int → Nat} {s : TPool} {D : Int → Nat} (h : Good e s D) {t : Ty} (hr : rightF t = true) (v : Nat) : Came e s D (numF s t v).2 (numF s t v).1 t (normF t v) ∧ (numF s t v).2.l.length ≤ s.l.length + 1 ∧ (numF s t v).2.types = s.types := by
 obtain ⟨h1, h2, h3, h4⟩ := node_came h (numN t v) (fun k hk => by cases hk) (.num rfl rfl rfl hr (norm_lt v hr)) (fun hc => absurd hc (show sNum ≠ sVar by decide))
 exact ⟨h1, h2, h4⟩
/-- What a simplification leaves. -/
structure Sim (e : Int → Nat) (s : TPool) (D : Int → Nat) (r : (Int × Bool) × TPool) (t : Ty) (v : Nat) : Prop where
 good : ∃ D', Good e r.2 D' ∧ Grow s D r.2 D'
 len : r.2.l.length ≤ s.l.length + 1
 types : r.2.types = s.types
 came : r.1.2 = true → Came e s D r.2 r.1.1 t v
theorem sim_no {e : Int → Nat} {s : TPool} {D : Int → Nat} (h : Good e s D) (x : Int) (t : Ty) (v : Nat) : Sim e s D ((x, false), s) t v := ⟨⟨D, h, Grow.refl _ _⟩, by simp, rfl, by simp⟩
theorem sim_self {e : Int → Nat} {s : TPool} {D : Int → Nat} (h : Good e s D) {f : Int} (hf : inP s f = true) {t : Ty} {v : Nat} (ht : typeF s f = t) (hv : D f = v) : Sim e s D ((f, true), s) t v := ⟨⟨D, h, Grow.refl _ _⟩, by simp, rfl, fun _ => by subst ht hv; exact self_came h hf⟩
theorem sim_num {e : Int → Nat} {s : TPool} {D : Int → Nat} (h : Good e s D) {t : Ty} (hr : rightF t = true) (x : Nat) {v : Nat} (b : Bool) (hv : b = true → normF t x = v) : Sim e s D (((numF s t x).1, b), (numF s t x).2) t v := by
 obtain ⟨h1, h2, h3⟩ := num_came h hr x
 obtain ⟨D', g1, g2, _⟩ := h1.out
 exact ⟨⟨D', g1, g2⟩, h2, h3, fun hb => by rw [← hv hb]; exact h1⟩
theorem isNum_val {e : Int → Nat} {s : TPool} {D : Int → Nat} (h : Good e s D) {f : Int} {v : Nat} (hn : isNumF s f v = true) : D f = normF (typeF s f) v := by
 unfold isNumF at hn
 cases hf : nth s.l f with
 | none => rw [hf] at hn; cases hn
 | some n =>
  rw [hf] at hn
  simp only [Bool.and_eq_true, decide_eq_true_eq] at hn
  rw [type_of hf, h.den _ _ hf]
  unfold stepE
  rw [if_pos hn.1, hn.2]
theorem const_val {e : Int → Nat} {s : TPool} {D : Int → Nat} (h : Good e s D) {f : Int} (hn : (constF s f).2 = true) : (constF s f).1 = D f := by
 unfold constF at *
 cases hf : nth s.l f with
 | none => rw [hf] at hn; cases hn
 | some n =>
  rw [hf] at hn
  simp only at hn ⊢
  rw [h.den _ _ hf]
  unfold stepE
  split
  ·rfl
  ·rename_i hx; rw [if_neg hx] at hn; cases hn
theorem word_bin {t : Ty} {op : ByteArray} {k k1 : Bin} {o1 : Option Bin} (hg : getF (opsF t) op = some k) (h1 : getF [(sAnd, .and), (sOr, .or), (sXor, .xor)] op = o1) (h2 : getF [(sAnd, .and), (sOr, .or), (sXor, .xor), (sAdd, .add), (sSub, .sub), (sMul, .mul), (sShl, .shl), (sShr, .shr), (sQuo, .quo), (sRem, .rem)] op = some k1) (ho : o1 = none ∨ o1 = some k1) : k = k1 ∧ (o1 = none → t.1 ≠ 1) := by
 unfold opsF at hg
 split at hg
 ·rw [h1] at hg
  rcases ho with rfl | rfl
  ·cases hg
  ·exact ⟨(Option.some.inj hg).symm, by simp⟩
 ·rename_i hw
  rw [h2] at hg
  exact ⟨(Option.some.inj hg).symm, fun _ => hw⟩
theorem word_of {t : Ty} {op : ByteArray} (h : Two t op) (hl : op ≠ sLand ∧ op ≠ sLor) (hm : op ∉ tests) : rightF t = true ∧ (∃ k, getF (opsF t) op = some k) ∧ resultF op t = t := by
 cases h with
 | logic ho => rcases ho with ho | ho; exact absurd ho hl.1; exact absurd ho hl.2
 | test hm' => exact absurd hm' hm
 | word k _ _ hr hg => exact ⟨hr, ⟨k, hg⟩, result_else hl hm⟩
/-- Of a name of package word: its value. -/
theorem word_val {t : Ty} {op : ByteArray} (h : Two t op) (hl : op ≠ sLand ∧ op ≠ sLor) (hm : op ∉ tests) {k1 : Bin} {o1 : Option Bin} (h1 : getF [(sAnd, .and), (sOr, .or), (sXor, .xor)] op = o1) (h2 : getF [(sAnd, .and), (sOr, .or), (sXor, .xor), (sAdd, .add), (sSub, .sub), (sMul, .mul), (sShl, .shl), (sShr, .shr), (sQuo, .quo), (sRem, .rem)] op = some k1) (ho : o1 = none ∨ o1 = some k1) :
  rightF t = true ∧ resultF op t = t ∧ (o1 = none → t.1 ≠ 1) ∧ ∀ {a b : Nat}, a < 2 ^ wid t → b < 2 ^ wid t → (applyF op t [a, b]).1 = if b = 0 ∧ (op = sQuo ∨ op = sRem) then 0 else normF t (binF t k1 a b) := by
 obtain ⟨hr, ⟨k, hg⟩, hres⟩ := word_of h hl hm
 obtain ⟨rfl, hw⟩ := word_bin hg h1 h2 ho
 refine ⟨hr, hres, hw, fun {a b} ha hb => ?_⟩
 rw [ap_do hr hg hl (not_tests hm) ha hb]
 split <;> rfl
theorem word_valN {t : Ty} {op : ByteArray} (h : Two t op) (hl : op ≠ sLand ∧ op ≠ sLor) (hm : op ∉ tests) {k1 : Bin} {o1 : Option Bin} (h1 : getF [(sAnd, .and), (sOr, .or), (sXor, .xor)] op = o1) (h2 : getF [(sAnd, .and), (sOr, .or), (sXor, .xor), (sAdd, .add), (sSub, .sub), (sMul, .mul), (sShl, .shl), (sShr, .shr), (sQuo, .quo), (sRem, .rem)] op = some k1) (ho : o1 = none ∨ o1 = some k1) (hq : ¬ (op = sQuo ∨ op = sRem)) :
  rightF t = true ∧ resultF op t = t ∧ (o1 = none → t.1 ≠ 1) ∧ ∀ {a b : Nat}, a < 2 ^ wid t → b < 2 ^ wid t → (applyF op t [a, b]).1 = normF t (binF t k1 a b) := by
 obtain ⟨g1, g2, g3, g4⟩ := word_val h hl hm h1 h2 ho
 exact ⟨g1, g2, g3, fun {a b} ha hb => by rw [g4 ha hb, if_neg fun hc => hq hc.2]⟩
theorem and_lt {w a b : Nat} (ha : a < 2 ^ w) : a &&& b < 2 ^ w := Nat.lt_of_le_of_lt Nat.and_le_left ha
theorem val_meet {t : Ty} {op : ByteArray} (h : Two t op) (ho : op = sLand ∨ op = sAnd) : rightF t = true ∧ resultF op t = t ∧ ∀ {a b : Nat}, a < 2 ^ wid t → b < 2 ^ wid t → (applyF op t [a, b]).1 = a &&& b := by
 rcases ho with rfl | rfl
 ·cases h with
  | logic _ ht => subst ht; exact ⟨right_bool, result_logic (.inl rfl) _, fun _ _ => by rw [ap_land_val (.inl rfl), if_pos rfl]⟩
  | test hm => exact absurd hm (by simp [tests])
  | word k hl => exact absurd rfl hl.1
 ·obtain ⟨h1, h2, _, h3⟩ := word_valN h (by decide) (by simp [tests]) (k1 := .and) (o1 := some .and) (by kernel_rfl) (by kernel_rfl) (.inr rfl) (by decide)
  exact ⟨h1, h2, fun {a b} ha hb => by
   rw [h3 ha hb]
   exact norm_of_lt h1 (and_lt ha)⟩
theorem val_join {t : Ty} {op : ByteArray} (h : Two t op) (ho : op = sLor ∨ op = sOr) : rightF t = true ∧ resultF op t = t ∧ ∀ {a b : Nat}, a < 2 ^ wid t → b < 2 ^ wid t → (applyF op t [a, b]).1 = a ||| b := by
 rcases ho with rfl | rfl
 ·cases h with
  | logic _ ht => subst ht; exact ⟨right_bool, result_logic (.inr rfl) _, fun _ _ => by rw [ap_land_val (.inr rfl), if_neg (by decide)]⟩
  | test hm => exact absurd hm (by simp [tests])
  | word k hl => exact absurd rfl hl.2
 ·obtain ⟨h1, h2, _, h3⟩ := word_valN h (by decide) (by simp [tests]) (k1 := .or) (o1 := some .or) (by kernel_rfl) (by kernel_rfl) (.inr rfl) (by decide)
  exact ⟨h1, h2, fun {a b} ha hb => by
   rw [h3 ha hb]
   exact norm_of_lt h1 (Nat.or_lt_two_pow ha hb)⟩
theorem mget_mem {β : Type} : ∀ {l : List (ByteArray × β)} {k : ByteArray} {v : β}, mget l k = some v → (k, v) ∈ l
 | [], _, _, h => by cases h
 | (a, x) :: r, k, v, h => by
  unfold mget at h
  split at h
  ·rename_i hc
   have hc' : a = k := by simpa using hc
   subst hc'
   obtain rfl := Option.some.inj h
   simp
  ·exact List.mem_cons_of_mem _ (mget_mem h)
theorem cls_mem {op : ByteArray} {c : Cls} (h : clsF op = c) (hc : c ≠ .other) : (op, c) ∈ clsL := by
 unfold clsF at h
 cases hm : mget clsL op with
 | none => rw [hm] at h; exact absurd h.symm hc
 | some x =>
  rw [hm] at h
  have : x = c := h
  subst this
  exact mget_mem hm
theorem simple2_sim {e : Int → Nat} {s : TPool} {D : Int → Nat} (h : Good e s D) {op : ByteArray} {a b : Int} (ha : inP s a = true) (hb : inP s b = true) (ht : typeF s a = typeF s b) (h2 : Two (typeF s b) op) : Sim e s D (simple2F s op a b) (resultF op (typeF s b)) (applyF op (typeF s b) [D a, D b]).1 := by
 have la : D a < 2 ^ wid (typeF s b) := ht ▸ h.lt ha
 have lb : D b < 2 ^ wid (typeF s b) := h.lt hb
 unfold simple2F
 cases hc : clsF op with
 | meet =>
  have ho : op = sLand ∨ op = sAnd := by have := cls_mem hc (by decide); simpa [clsL] using this
  obtain ⟨hr, hres, hv⟩ := val_meet h2 ho
  rw [hres, hv la lb]
  simp only
  unfold meetF
  split
  ·rename_i he
   have he : a = b := by simpa using he
   subst he
   exact sim_self h ha ht (Nat.and_self _).symm
  ·split
   ·rename_i hn
    refine sim_self h ha ht ?_
    rw [isNum_val h hn, norm_mx hr, and_mask la]
   ·split
    ·rename_i hn
     refine sim_self h hb rfl ?_
     rw [isNum_val h hn, ht, norm_mx hr, Nat.and_comm, and_mask lb]
    ·split
     ·rename_i hn
      refine sim_self h ha ht ?_
      rw [isNum_val h hn, norm_zero, Nat.zero_and]
     ·split
      ·rename_i hn
       refine sim_self h hb rfl ?_
       rw [isNum_val h hn, norm_zero, Nat.and_zero]
      ·exact sim_no h _ _ _
 | join =>
  have ho : op = sLor ∨ op = sOr := by have := cls_mem hc (by decide); simpa [clsL] using this
  obtain ⟨hr, hres, hv⟩ := val_join h2 ho
  rw [hres, hv la lb]
  simp only
  unfold joinF
  split
  ·rename_i he
   have he : a = b := by simpa using he
   subst he
   exact sim_self h ha ht (Nat.or_self _).symm
  ·split
   ·rename_i hn
    refine sim_self h ha ht ?_
    rw [isNum_val h hn, norm_zero, Nat.or_zero]
   ·split
    ·rename_i hn
     refine sim_self h hb rfl ?_
     rw [isNum_val h hn, norm_zero, Nat.zero_or]
    ·split
     ·rename_i hn
      refine sim_self h ha ht ?_
      rw [isNum_val h hn, ht, norm_mx hr, Nat.or_comm, or_mask lb]
     ·split
      ·rename_i hn
       refine sim_self h hb rfl ?_
       rw [isNum_val h hn, norm_mx hr, or_mask la]
      ·exact sim_no h _ _ _
 | plus =>
  have ho : op = sAdd := by have := cls_mem hc (by decide); simpa [clsL] using this
  subst ho
  obtain ⟨hr, hres, _, hv⟩ := word_valN h2 (by decide) (by simp [tests]) (k1 := .add) (o1 := none) (by kernel_rfl) (by kernel_rfl) (.inl rfl) (by decide)
  rw [hres, hv la lb]
  simp only
  split
  ·rename_i hn
   refine sim_self h ha ht ?_
   rw [isNum_val h hn, norm_zero, bin_zero_r hr (by simp) la]
  ·split
   ·rename_i hn
    refine sim_self h hb rfl ?_
    rw [isNum_val h hn, norm_zero, bin_zero_l hr (by simp) lb]
   ·exact sim_no h _ _ _
 | minus =>
  have ho : op = sSub := by have := cls_mem hc (by decide); simpa [clsL] using this
  subst ho
  obtain ⟨hr, hres, _, hv⟩ := word_valN h2 (by decide) (by simp [tests]) (k1 := .sub) (o1 := none) (by kernel_rfl) (by kernel_rfl) (.inl rfl) (by decide)
  rw [hres, hv la lb]
  simp only
  split
  ·rename_i hn
   refine sim_self h ha ht ?_
   rw [isNum_val h hn, norm_zero, bin_zero_r hr (by simp) la]
  ·split
   ·rename_i he
    have he : a = b := by simpa using he
    subst he
    exact sim_num h hr 0 true fun _ => by rw [norm_zero, bin_same hr (by simp) la]
   ·exact sim_no h _ _ _
 | xor =>
  have ho : op = sXor := by have := cls_mem hc (by decide); simpa [clsL] using this
  subst ho
  obtain ⟨hr, hres, _, hv⟩ := word_valN h2 (by decide) (by simp [tests]) (k1 := .xor) (o1 := some .xor) (by kernel_rfl) (by kernel_rfl) (.inr rfl) (by decide)
  rw [hres, hv la lb]
  simp only
  split
  ·rename_i hn
   refine sim_self h ha ht ?_
   rw [isNum_val h hn, norm_zero, bin_zero_r hr (by simp) la]
  ·split
   ·rename_i hn
    refine sim_self h hb rfl ?_
    rw [isNum_val h hn, norm_zero, bin_zero_l hr (by simp) lb]
   ·split
    ·rename_i he
     have he : a = b := by simpa using he
     subst he
     exact sim_num h hr 0 true fun _ => by rw [norm_zero, bin_same hr (by simp) la]
    ·exact sim_no h _ _ _
 | shift =>
  have ho : op = sShl ∨ op = sShr := by have := cls_mem hc (by decide); simpa [clsL] using this
  simp only
  split
  ·rename_i hn
   rcases ho with rfl | rfl
   ·obtain ⟨hr, hres, _, hv⟩ := word_valN h2 (by decide) (by simp [tests]) (k1 := .shl) (o1 := none) (by kernel_rfl) (by kernel_rfl) (.inl rfl) (by decide)
    rw [hres, hv la lb]
    refine sim_self h ha ht ?_
    rw [isNum_val h hn, norm_zero, bin_zero_r hr (by simp) la]
   ·obtain ⟨hr, hres, _, hv⟩ := word_valN h2 (by decide) (by simp [tests]) (k1 := .shr) (o1 := none) (by kernel_rfl) (by kernel_rfl) (.inl rfl) (by decide)
    rw [hres, hv la lb]
    refine sim_self h ha ht ?_
    rw [isNum_val h hn, norm_zero, bin_zero_r hr (by simp) la]
  ·exact sim_no h _ _ _
 | mul =>
  have ho : op = sMul ∨ op = sQuo := by have := cls_mem hc (by decide); simpa [clsL] using this
  simp only
  rcases ho with rfl | rfl
  ·obtain ⟨hr, hres, _, hv⟩ := word_valN h2 (by decide) (by simp [tests]) (k1 := .mul) (o1 := none) (by kernel_rfl) (by kernel_rfl) (.inl rfl) (by decide)
   rw [hres, hv la lb]
   split
   ·rename_i hn
    refine sim_self h ha ht ?_
    rw [isNum_val h hn, norm_one hr, bin_mul_one hr la]
   ·split
    ·rename_i hn
     rw [ht]
     refine sim_num h hr 0 true fun _ => ?_
     rw [norm_zero, bin_mul_zero]
     rcases hn with hn | hn
     ·left; rw [isNum_val h hn, norm_zero]
     ·right; rw [isNum_val h hn, norm_zero]
    ·exact sim_no h _ _ _
  ·obtain ⟨hr, hres, hw, hv⟩ := word_val h2 (by decide) (by simp [tests]) (k1 := .quo) (o1 := none) (by kernel_rfl) (by kernel_rfl) (.inl rfl)
   have hw := hw rfl
   rw [hres, hv la lb]
   split
   ·rename_i hn
    refine sim_self h ha ht ?_
    have h1 : D b = 1 := by rw [isNum_val h hn, norm_one hr]
    rw [h1, if_neg (by simp), bin_quo_one hr hw la]
   ·split
    ·rename_i hn
     rw [ht]
     refine sim_num h hr 0 true fun _ => ?_
     rw [norm_zero]
     rcases hn with hn | hn
     ·have h0 : D a = 0 := by rw [isNum_val h hn, norm_zero]
      rw [h0]
      split
      ·rfl
      ·rw [bin_quo_zero hr]
     ·have h0 : D b = 0 := by rw [isNum_val h hn, norm_zero]
      rw [h0, if_pos (by simp)]
    ·exact sim_no h _ _ _
 | tt =>
  have ho : op = sEq ∨ op = sLe ∨ op = sGe := by have := cls_mem hc (by decide); simpa [clsL] using this
  simp only
  have hm : op ∈ tests := by rcases ho with rfl | rfl | rfl <;> simp [tests]
  have hl : op ≠ sLand ∧ op ≠ sLor := by rcases ho with rfl | rfl | rfl <;> decide
  cases h2 with
  | logic h => rcases h with h | h; exact absurd h hl.1; exact absurd h hl.2
  | word k _ hn => exact absurd hm hn
  | test _ hr h0 =>
   rw [result_test (h0 0 0), ap_test hr hl (h0 _ _)]
   refine sim_num h right_bool _ _ fun he => ?_
   have he : a = b := by simpa using he
   subst he
   rw [test_same hr _ (h0 _ _) ho, norm_of_lt right_bool (by decide)]
 | ff =>
  have ho : op = sNe ∨ op = sLt ∨ op = sGt := by have := cls_mem hc (by decide); simpa [clsL] using this
  simp only
  have hm : op ∈ tests := by rcases ho with rfl | rfl | rfl <;> simp [tests]
  have hl : op ≠ sLand ∧ op ≠ sLor := by rcases ho with rfl | rfl | rfl <;> decide
  cases h2 with
  | logic h => rcases h with h | h; exact absurd h hl.1; exact absurd h hl.2
  | word k _ hn => exact absurd hm hn
  | test _ hr h0 =>
   rw [result_test (h0 0 0), ap_test hr hl (h0 _ _)]
   refine sim_num h right_bool _ _ fun he => ?_
   have he : a = b := by simpa using he
   subst he
   rw [test_diff hr _ ho, norm_of_lt right_bool (by decide)]
 | other => exact sim_no h _ _ _
end TmW
end Go.Proofs.YtbbajekecppioaaGreatDoor
