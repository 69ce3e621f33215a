/- Package sat as plain functions: what each one computes of a solver that is data. No program in sight. -/
import Derived.Test.YtfpjfogddepbkaaHa01
import Derived.Deep.AppendLies
import Derived.Maps.AppendAt
set_option linter.unusedSimpArgs false
set_option linter.unusedVariables false
namespace Go.Sat
open Go.Mem
/-- A variable's: which literal is true, at what level, because of which clause. -/
structure Fact where
  lit : Int
  level : Int
  reason : Option Nat
  score : Int
  phase : Int
structure Cl where
  lits : List Int
  learnt : Bool
  score : Int
structure St where
  vars : List Fact
  heap : List Int
  place : List Int
  watches : List (Int × List Nat)
  cls : List Cl
  learnt : List Nat
  trail : List Int
  limits : List Int
  head : Int
  conflicts : Int
  added : Int
  bump : Int
  broken : Bool
def noFact : Fact := ⟨0, 0, none, 0, 0⟩
def new : St := ⟨[noFact], [], [-1], [], [], [], [], [], 0, 0, 0, 1, false⟩
def nth {α : Type} (l : List α) (i : Int) : Option α := if 0 ≤ i then l[i.toNat]? else none
def setN {α : Type} (l : List α) (i : Int) (v : α) : Option (List α) := if 0 ≤ i ∧ i.toNat < l.length then some (l.set i.toNat v) else none
def ofF (n : Int) : Int := if n < -n then -n else n
def rightF (n : Int) : Bool := decide (n ≠ 0 ∧ -1048576 ≤ n ∧ n ≤ 1048576)
def checkF (l : List Int) : Bool := l.all rightF
def watched (s : St) (n : Int) : List Nat := (mget s.watches n).getD []
/-- A literal's size. -/
def smlB (n : Int) : Bool := decide (-1048576 ≤ n ∧ n ≤ 1048576)
/-- What no row may come to. -/
def roomB (n : Nat) : Bool := decide (n ≤ 1099511627776)
def aheadF (s : St) (v w : Int) : Option Bool :=
  match nth s.vars v, nth s.vars w with
  | some a, some b => some (if a.score = b.score then decide (v < w) else decide (b.score < a.score))
  | _, _ => none
def layF (s : St) (v i : Int) : Option St :=
  match setN s.heap i v, setN s.place v i with
  | some h, some p => some { s with heap := h, place := p }
  | _, _ => none
def upL : Nat → St → Int → Int → Option St
  | 0, _, _, _ => none
  | k + 1, s, v, i =>
    if 0 < i then
      match nth s.heap ((i - 1) / 2) with
      | none => none
      | some p =>
        match aheadF s v p with
        | none => none
        | some false => layF s v i
        | some true => (layF s p i).bind fun s' => upL k s' v ((i - 1) / 2)
    else layF s v i
def upF (s : St) (i : Int) : Option St := (nth s.heap i).bind fun v => upL (s.heap.length + 1) s v i
/-- The greater one of a place's two below. -/
def lowF (s : St) (k : Int) : Option Int :=
  if k + 1 < (s.heap.length : Int) then
    match nth s.heap (k + 1), nth s.heap k with
    | some x, some y => (aheadF s x y).map fun b => if b then k + 1 else k
    | _, _ => none
  else some k
def downL : Nat → St → Int → Int → Option St
  | 0, _, _, _ => none
  | f + 1, s, v, i =>
    if 2 * i + 1 < (s.heap.length : Int) then
      match lowF s (2 * i + 1) with
      | none => none
      | some k =>
        match nth s.heap k with
        | none => none
        | some x =>
          match aheadF s x v with
          | none => none
          | some false => layF s v i
          | some true => (layF s x i).bind fun s' => downL f s' v k
    else layF s v i
def downF (s : St) (i : Int) : Option St := (nth s.heap i).bind fun v => downL (s.heap.length + 1) s v i
def pushF0 (s : St) (v : Int) : Option St :=
  match nth s.place v with
  | none => none
  | some p => if p < 0 then (layF { s with heap := s.heap ++ [v] } v s.heap.length).bind fun s' => upF s' s.heap.length else some s
def pushF (s : St) (v : Int) : Option St := if roomB s.heap.length then pushF0 s v else none
def popF0 (s : St) : Option (Int × St) :=
  match s.heap.head?, s.heap.getLast? with
  | some v, some last =>
    (setN s.place v (-1)).bind fun p =>
      if s.heap.length = 1 then some (v, { s with heap := [], place := p }) else
      (layF { s with heap := s.heap.dropLast, place := p } last 0).bind fun s' => (downF s' 0).map fun s2 => (v, s2)
  | _, _ => none
def popF (s : St) : Option (Int × St) := if roomB s.heap.length then popF0 s else none
def growF : Nat → St → Int → Option St
  | 0, _, _ => none
  | k + 1, s, n => if (smlB n && roomB s.vars.length && roomB s.place.length) = false then none else if (s.vars.length : Int) ≤ ofF n then (pushF { s with vars := s.vars ++ [noFact], place := s.place ++ [-1] } s.vars.length).bind fun s' => growF k s' n else some s
def growsF (s : St) : List Int → Option St
  | [] => some s
  | n :: r => (growF ((ofF n).toNat + 2) s n).bind fun s' => growsF s' r
def valueF0 (s : St) (n : Int) : Option Int := (nth s.vars (ofF n)).map fun v => if v.lit = 0 then 0 else if v.lit = n then 1 else -1
def valueF (s : St) (n : Int) : Option Int := if smlB n then valueF0 s n else none
def levelF (s : St) : Int := s.limits.length
def setF0 (s : St) (n : Int) (why : Option Nat) : Option St :=
  match nth s.vars (ofF n) with
  | none => none
  | some v => (setN s.vars (ofF n) { v with lit := n, level := levelF s, reason := why, phase := n }).map fun vs => { s with vars := vs, trail := s.trail ++ [n] }
def setF (s : St) (n : Int) (why : Option Nat) : Option St := if smlB n && roomB s.trail.length then setF0 s n why else none
def unsetL (s : St) : List Int → Option St
  | [] => some s
  | n :: r =>
    if smlB n = false then none else
    match nth s.vars (ofF n) with
    | none => none
    | some v => (setN s.vars (ofF n) { v with lit := 0 }).bind fun vs => (pushF { s with vars := vs } (ofF n)).bind fun s' => unsetL s' r
def backF (s : St) (level : Int) : Option St :=
  if levelF s ≤ level then some s else
  match nth s.limits level with
  | none => none
  | some lim => if lim < 0 ∨ (s.trail.length : Int) < lim ∨ s.trail.length = 0 then none else (unsetL s (s.trail.drop lim.toNat)).map fun s' => { s' with trail := s'.trail.take lim.toNat, limits := s'.limits.take level.toNat, head := lim }
/-- One more that watches. -/
def putW (s : St) (k : Int) (c : Nat) : Option St := if smlB k && roomB (watched s k).length then some { s with watches := mput s.watches k (watched s k ++ [c]) } else none
def watchF (s : St) (c : Nat) : Option St :=
  match (s.cls[c]?).map (·.lits) with
  | some (a :: b :: _) => (putW s (-a) c).bind fun s1 => putW s1 (-b) c
  | _ => none
def swapF (l : List Int) (i j : Nat) : Option (List Int) :=
  match l[i]?, l[j]? with
  | some x, some y => some ((l.set i y).set j x)
  | _, _ => none
/-- The first one from a place on that is not false. -/
def seekF (s : St) : List Int → Nat → Option (Option Nat)
  | [], _ => some none
  | n :: r, k =>
    match valueF s n with
    | none => none
    | some v => if v = -1 then seekF s r (k + 1) else some (some k)
def litsF (s : St) (c : Nat) (l : List Int) : St := { s with cls := s.cls.modify c fun x => { x with lits := l } }
def movedF (s : St) (c : Nat) (n : Int) : Option (Bool × St) :=
  if smlB n = false then none else
  match (s.cls[c]?).map (·.lits) with
  | some (a :: b :: r) =>
    let s1 := if a = -n then litsF s c (b :: a :: r) else s
    let x := if a = -n then b else a
    let y := if a = -n then a else b
    match valueF s1 x with
    | none => none
    | some v =>
      if v = 1 then some (false, s1) else
      match seekF s1 r 2 with
      | none => none
      | some none => some (false, s1)
      | some (some k) =>
        match swapF (x :: y :: r) 1 k with
        | some (x' :: z :: r') => if z = -n then none else (putW (litsF s1 c (x' :: z :: r')) (-z) c).map fun s2 => (true, s2)
        | _ => none
  | _ => none
/-- The clauses that a literal's falling wakes, one by one. -/
def wakeF (n : Int) (s : St) (left : List Nat) : List Nat → Option (Option Nat × St)
  | [] => some (none, { s with watches := mput s.watches n left })
  | c :: r =>
    if roomB (left.length + r.length) = false then none else
    match movedF s c n with
    | none => none
    | some (true, s1) => wakeF n s1 left r
    | some (false, s1) =>
      match ((s1.cls[c]?).bind fun x => x.lits.head?) with
      | none => none
      | some f =>
        match valueF s1 f with
        | none => none
        | some v =>
          if v = 1 then wakeF n s1 (left ++ [c]) r
          else if v = -1 then some (some c, { s1 with watches := mput s1.watches n (left ++ [c] ++ r) })
          else (setF s1 f (some c)).bind fun s2 => wakeF n s2 (left ++ [c]) r
def spreadF : Nat → St → Option (Option Nat × St)
  | 0, _ => none
  | k + 1, s =>
    if s.head < (s.trail.length : Int) then
      match nth s.trail s.head with
      | none => none
      | some n =>
        match wakeF n { s with head := s.head + 1 } [] (watched s n) with
        | none => none
        | some (some c, s') => some (some c, s')
        | some (none, s') => spreadF k s'
    else some (none, s)
def usedF (s : St) (v : Int) : Option St :=
  match nth s.vars v with
  | none => none
  | some a =>
    if (decide (0 ≤ a.score ∧ 0 ≤ s.bump ∧ a.score + s.bump ≤ 4611686018427387904)) = false then none else
    (setN s.vars v { a with score := a.score + s.bump }).bind fun vs =>
      let s1 := { s with vars := vs }
      match nth s1.place v with
      | none => none
      | some p => (if 0 ≤ p then upF s1 p else some s1).bind fun s2 =>
        match nth s2.vars v with
        | none => none
        | some b => some (if 1099511627776 < b.score then { s2 with vars := s2.vars.map fun x => { x with score := x.score / 1048576 }, bump := if s2.bump / 1048576 < 1 then 1 else s2.bump / 1048576 } else s2)
/-- A clause's literals, looked at: what is seen, how many of the last level, what is of lower ones. -/
def scanF (n : Int) (s : St) (seen : List Int) (count : Int) (out : List Int) : List Int → Option (St × List Int × Int × List Int)
  | [] => some (s, seen, count, out)
  | m :: r =>
    if (smlB m && decide (0 ≤ count ∧ count ≤ 1099511627776) && roomB out.length) = false then none else
    if m = n ∨ ofF m ∈ seen then scanF n s seen count out r else
    match nth s.vars (ofF m) with
    | none => none
    | some a =>
      if a.level = 0 then scanF n s seen count out r else
      match usedF s (ofF m) with
      | none => none
      | some s' =>
        match nth s'.vars (ofF m) with
        | none => none
        | some a' => if a'.level = levelF s' then scanF n s' (ofF m :: seen) (count + 1) out r else scanF n s' (ofF m :: seen) count (out ++ [m]) r
def lastSeen (s : St) (seen : List Int) : Nat → Int → Option (Int × Int)
  | 0, _ => none
  | k + 1, i =>
    match nth s.trail i with
    | none => none
    | some n => if smlB n = false then none else if ofF n ∈ seen then some (n, i) else lastSeen s seen k (i - 1)
def learnL : Nat → St → Nat → Int → List Int → Int → Int → List Int → Option (St × Int × List Int)
  | 0, _, _, _, _, _, _, _ => none
  | k + 1, s, c, n, seen, count, i, out =>
    match s.cls[c]? with
    | none => none
    | some x =>
      match scanF n { s with cls := s.cls.modify c fun x => { x with score := s.conflicts } } seen count out x.lits with
      | none => none
      | some (s1, seen1, count1, out1) =>
        match lastSeen s1 seen1 (s1.trail.length + 1) i with
        | none => none
        | some (m, j) =>
          if (decide (0 ≤ count1 ∧ count1 ≤ 1099511627777) && smlB m) = false then none else
          if count1 - 1 = 0 then some (s1, m, out1) else
          match (nth s1.vars (ofF m)).bind (·.reason) with
          | none => none
          | some d => learnL k s1 d m seen1 (count1 - 1) (j - 1) out1
/-- The level to go back to; the literal of that level second. -/
def sortF (s : St) (back : Int) (out : List Int) : Nat → Nat → Option (List Int × Int)
  | 0, _ => some (out, back)
  | k + 1, i =>
    match out[i]? with
    | none => none
    | some m =>
      if smlB m = false then none else
      match nth s.vars (ofF m) with
      | none => none
      | some a => if back < a.level then (swapF out 1 i).bind fun o => sortF s a.level o k (i + 1) else sortF s back out k (i + 1)
def learnF (s : St) (c : Nat) : Option ((List Int × Int) × St) :=
  match learnL (s.vars.length + 1) s c 0 [] 0 ((s.trail.length : Int) - 1) [0] with
  | none => none
  | some (s1, n, out) => if (decide (0 < out.length) && roomB out.length) = false then none else (sortF s1 0 (out.set 0 (-n)) (out.length - 1) 1).map fun r => (r, s1)
def takeF (s : St) (lits : List Int) (back : Int) : Option St :=
  match backF s back with
  | none => none
  | some s1 =>
    match lits with
    | [] => none
    | [n] => setF s1 n none
    | n :: _ => if roomB s1.learnt.length = false then none else (watchF { s1 with cls := s1.cls ++ [⟨lits, true, s1.conflicts⟩], learnt := s1.learnt ++ [s1.cls.length] } s1.cls.length).bind fun s2 => setF s2 n (some s1.cls.length)
def chooseF : Nat → St → Option (Int × St)
  | 0, _ => none
  | k + 1, s =>
    if s.heap.length = 0 then some (0, s) else
    match popF s with
    | none => none
    | some (v, s') =>
      match nth s'.vars v with
      | none => none
      | some a => if a.lit = 0 then some (v, s') else chooseF k s'
def insertF (x : Int) : List Int → List Int
  | [] => [x]
  | y :: r => if x < y then x :: y :: r else if x = y then y :: r else y :: insertF x r
/-- Rising, each once. -/
def sortedF : List Int → List Int
  | [] => []
  | x :: r => insertF x (sortedF r)
/-- Down along the trail: which of the assumed ones let it be. -/
def coreL (s : St) (assume : List Int) (why : List Int) (out : List Int) : List Int → Option (List Int)
  | [] => some out
  | m :: r =>
    if (smlB m && roomB out.length) = false then none else
    if ofF m ∈ why then
      match nth s.vars (ofF m) with
      | none => none
      | some a =>
        match a.reason with
        | some c =>
          match s.cls[c]? with
          | none => none
          | some x => if x.lits.all smlB then coreL s assume ((x.lits.map ofF).reverse ++ why) out r else none
        | none => coreL s assume why (if m ∈ assume then out ++ [m] else out) r
    else coreL s assume why out r
def coreF (s : St) (n : Int) (assume : List Int) : Option (List Int) :=
  if smlB n = false then none else
  match s.limits.head? with
  | none => some (sortedF [n])
  | some b => if b < 0 then none else (coreL s assume [ofF n] [n] ((s.trail.drop b.toNat).reverse)).bind fun o => if roomB o.length then some (sortedF o) else none
def decideL : Nat → St → List Int → Option ((Int × Bool) × St)
  | 0, _, _ => none
  | k + 1, s, assume =>
    if levelF s < (assume.length : Int) then
      match assume[s.limits.length]? with
      | none => none
      | some n =>
        match valueF s n with
        | none => none
        | some v => if v = -1 then some ((n, false), s) else if v = 0 then some ((n, true), s) else if roomB s.limits.length = false then none else decideL k { s with limits := s.limits ++ [(s.trail.length : Int)] } assume
    else
      match chooseF (s.heap.length + 1) s with
      | none => none
      | some (v, s') =>
        if 0 < v then
          match nth s'.vars v with
          | none => none
          | some a => if smlB v = false then none else some ((if a.phase = v then v else -v, true), s')
        else some ((v, true), s')
/-- An answer: can they hold, how, why not. -/
structure Ans where
  sat : Bool
  model : List Int
  core : List Int
def noAns : Ans := ⟨false, [], []⟩
def modelF (s : St) : List Int := (s.vars.drop 1).map (·.lit)
def clashF : List Int → List Int → Bool
  | [], _ => false
  | n :: r, c => decide (n ≠ -n ∧ -n ∈ c) || clashF r c
def cleanF (l : List Int) : Option (List Int) := if clashF (sortedF l) (sortedF l) then none else some (sortedF l)
def knownF (s : St) (l : List Int) : Bool := l.all fun n => (valueF s n).isSome
def litF (s : St) (v : Int) (n : Int) : Bool := decide (valueF s n = some v)
/-- One clause more, all of whose literals may be. -/
def addF (fuel : Nat) (s : St) (lits : List Int) : Option St :=
  if (decide (0 ≤ s.added ∧ s.added ≤ 1099511627776)) = false then none else
  match backF { s with added := s.added + 1 } 0 with
  | none => none
  | some s1 =>
    match growsF s1 lits with
    | none => none
    | some s2 =>
      match cleanF lits with
      | none => some s2
      | some c =>
        if knownF s2 c = false then none else
        if c.any (litF s2 1) then some s2 else
        match c.filter fun n => !litF s2 (-1) n with
        | [] => some { s2 with broken := true }
        | [n] =>
          match setF s2 n none with
          | none => none
          | some s3 => if s3.broken then some s3 else (spreadF fuel s3).map fun r => { r.2 with broken := r.1.isSome }
        | o => watchF { s2 with cls := s2.cls ++ [⟨o, false, 0⟩] } s2.cls.length
/-- A conflict: what is learnt of it. -/
def conflictF (s : St) (c : Nat) : Option St :=
  match learnF s c with
  | none => none
  | some (r, s1) => (takeF s1 r.1 r.2).bind fun s2 => if (decide (0 ≤ s2.bump ∧ s2.bump ≤ 1152921504606846976)) = false then none else some { s2 with bump := s2.bump + (1 + s2.bump / 16) }
/-- The search; none: it ran out of fuel, or would forget. -/
def searchF (fuel : Nat) (limit : Int) (assume : List Int) : Nat → St → Int → Option ((Ans × Int) × St)
  | 0, _, _ => none
  | k + 1, s, count =>
    if s.broken then some ((noAns, 0), s) else
    match spreadF fuel s with
    | none => none
    | some (some c, s1) =>
      if (decide (0 ≤ s1.conflicts ∧ s1.conflicts ≤ 1099511627776 ∧ 0 ≤ count ∧ count ≤ 1099511627776)) = false then none else
      let s2 := { s1 with conflicts := s1.conflicts + 1 }
      if levelF s2 = 0 then some ((noAns, 0), { s2 with broken := true }) else
      match conflictF s2 c with
      | none => none
      | some s3 =>
        if 0 < limit ∧ limit ≤ count + 1 then (backF s3 0).map fun s4 => ((noAns, 70), s4) else
        (if (count + 1) % 64 = 0 then backF s3 0 else some s3).bind fun s4 => if s4.broken then none else searchF fuel limit assume k s4 (count + 1)
    | some (none, s1) =>
      if (decide (0 ≤ s1.added ∧ s1.added ≤ 1099511627776)) = false then none else
      if 2000 + s1.added / 2 < (s1.learnt.length : Int) then none else
      match decideL (assume.length + 2) s1 assume with
      | none => none
      | some ((n, false), s2) => (coreF s2 n assume).map fun l => ((⟨false, [], l⟩, 0), s2)
      | some ((n, true), s2) =>
        if n = 0 then (if roomB s2.vars.length then some ((⟨true, modelF s2, []⟩, 0), s2) else none) else
        if roomB s2.limits.length = false then none else
        (setF { s2 with limits := s2.limits ++ [(s2.trail.length : Int)] } n none).bind fun s3 => searchF fuel limit assume k s3 count
def solveF (fuel : Nat) (s : St) (limit : Int) (assume : List Int) : Option ((Ans × Int) × St) :=
  match backF s 0 with
  | none => none
  | some s1 => (growsF s1 assume).bind fun s2 => searchF fuel limit assume fuel s2 0
/-- Clauses, one by one. -/
def addsF (fuel : Nat) (s : St) : List (List Int) → Option St
  | [] => some s
  | c :: r => (addF fuel s c).bind fun s' => addsF fuel s' r
end Go.Sat
/- Rows of structs (k cells an element) that the program made. -/
namespace Go.Mem
open Go.RowKit
section
variable {α : Type}
/-- How an element lies in its cells. -/
structure Enc (α : Type) (k : Nat) where
  cells : α → List Value
  len : ∀ x, (cells x).length = k
  one : ∀ x, ∀ u ∈ cells x, u.oneCell' = true
def SRow {k : Nat} (w : World) (e : TypeId) (E : Enc α k) (v : Value) (xs : List α) : Prop := w.ownsRow 0 e k v xs.length (xs.flatMap E.cells)
theorem Enc.get {k : Nat} (E : Enc α k) : ∀ (l : List α) (i : Nat) (x : α), l[i]? = some x → ∀ j u, (E.cells x)[j]? = some u → (l.flatMap E.cells)[i * k + j]? = some u
  | [], i, x, h, _, _, _ => by simp at h
  | y :: l, 0, x, h, j, u, hu => by
    simp only [List.getElem?_cons_zero, Option.some.injEq] at h
    subst h
    have hj := (List.getElem?_eq_some_iff.1 hu).1
    simp only [List.flatMap_cons]
    rw [Nat.zero_mul, Nat.zero_add, List.getElem?_append_left hj]
    exact hu
  | y :: l, i + 1, x, h, j, u, hu => by
    have ih := E.get l i x (by simpa using h) j u hu
    have hl := E.len y
    simp only [List.flatMap_cons]
    rw [List.getElem?_append_right (by rw [hl, Nat.succ_mul]; omega), hl, show (i + 1) * k + j - k = i * k + j by rw [Nat.succ_mul]; omega]
    exact ih
theorem SRow.nil {k : Nat} (w : World) (e : TypeId) (E : Enc α k) : SRow w e E (.slice none 0 0) ([] : List α) := ⟨by simp, .inl ⟨rfl, rfl⟩⟩
theorem SRow.frm {k : Nat} {S : Nat → Prop} {w w' : World} {e : TypeId} {E : Enc α k} {v : Value} {xs : List α} (h : SRow w e E v xs) (hf : Frm S w w') (hS : ∀ g, v.ownBlock = some g → ¬ S g) : SRow w' e E v xs := own_frm h hf hS
theorem SRow.frm0 {k : Nat} {w w' : World} {e : TypeId} {E : Enc α k} {v : Value} {xs : List α} (h : SRow w e E v xs) (hf : Frm (fun _ => False) w w') : SRow w' e E v xs := h.frm hf fun _ _ => id
/-- An empty slice of the program's own. -/
theorem SRow.empty {k : Nat} {w : World} {e : TypeId} {E : Enc α k} {g : Nat} (h : w.heap[g]? = some (.cells #[] e (0, 0))) : SRow w e E (.slice (some ⟨g, 0, none⟩) 0 0) ([] : List α) := ⟨by simp, .inr ⟨g, 0, #[], rfl, Nat.zero_le _, h, Nat.zero_le _, Nat.zero_le _, by simp, by simp⟩⟩
theorem SRow.shape {k : Nat} {w : World} {e : TypeId} {E : Enc α k} {v : Value} {xs : List α} (h : SRow w e E v xs) : (v = .slice none 0 0 ∧ xs = []) ∨ ∃ g cap, v = .slice (some ⟨g, 0, none⟩) xs.length cap ∧ v.ownBlock = some g ∧ g < w.heap.size ∧ xs.length ≤ cap ∧ cap ≤ maxLen ∧ (∀ i x j u, xs[i]? = some x → (E.cells x)[j]? = some u → w.cell? ⟨g, i * k + j, none⟩ = some u) ∧ ∀ i, w.frozen? ⟨g, i, none⟩ = false := by
  have hlt := World.ownsRow.lt h
  have hc := fun g => World.ownsRow.cells h (g := g)
  obtain ⟨h1, ⟨rfl, h2⟩ | ⟨g, cap, cur, rfl, hbg, hg, hn, hm, _⟩⟩ := h
  · exact .inl ⟨rfl, List.eq_nil_of_length_eq_zero h2⟩
  · refine .inr ⟨g, cap, rfl, rfl, (hlt g rfl).2, hn, hm, fun i x j u hx hu => ?_, fun i => blk_free hg i⟩
    have k' := hc g rfl _ _ (E.get xs i x hx j u hu)
    simp only [Addr.add] at k'
    by_cases hz : i * k + j = 0
    · rw [if_pos hz] at k'; rw [hz]; exact k'
    · rw [if_neg hz] at k'; simpa using k'
theorem SRow.slice {k : Nat} {w : World} {e : TypeId} {E : Enc α k} {v : Value} {xs : List α} (h : SRow w e E v xs) : ∃ A c, v = .slice A xs.length c ∧ ∀ i x, xs[i]? = some x → ∃ g, A = some ⟨g, 0, none⟩ ∧ g < w.heap.size ∧ ∀ j u, (E.cells x)[j]? = some u → w.cell? ⟨g, i * k + j, none⟩ = some u := by
  rcases h.shape with ⟨rfl, rfl⟩ | ⟨g, cap, rfl, _, hg, _, _, hc, _⟩
  · exact ⟨none, 0, rfl, fun i x h => by simp at h⟩
  · exact ⟨some ⟨g, 0, none⟩, cap, rfl, fun i x hx => ⟨g, rfl, hg, fun j u hu => hc i x j u hx hu⟩⟩
theorem SRow.len {k : Nat} {w : World} {e : TypeId} {E : Enc α k} {v : Value} {xs : List α} (h : SRow w e E v xs) : xs.length ≤ maxLen := by
  rcases h.shape with ⟨_, rfl⟩ | ⟨_, _, _, _, _, h1, h2, _⟩
  · exact Nat.zero_le _
  · omega
theorem SRow.lt {k : Nat} {w : World} {e : TypeId} {E : Enc α k} {v : Value} {xs : List α} (h : SRow w e E v xs) : ∀ g, v.ownBlock = some g → g < w.heap.size := fun g hg => (World.ownsRow.lt h g hg).2
/-- append of one element. -/
theorem wpList_append_srow {P : Program} {w : World} {ops : Array Oper} {rest : List Oper} {o : Oper} {a : Act} {Q : Exit → Act → World → Prop} (hgd : o.guard = none) (s x : Operand) (t : TypeId)
    (ho : o.op = .call { callee := .builtin .append, args := #[s, x], argTypes := #[t, t] })
    (e : TypeId) (i : TypeInfo) (z : Value) (bytes : Nat) {k : Nat} (ht : P.underlying t = some (.slice e)) (hi : P.info? e = some i) (hz : i.zero = some z)
    (hsize : i.size = k) (hby : i.bytes = bytes) (hzs : z.cells.size = k) (hk : 0 < k) {E : Enc α k}
    (v : Value) (xs : List α) (hs : a.eval s = v) (hrow : SRow w e E v xs) (ad : Addr) (c : Nat) (y : α) (hx : a.eval x = .slice (some ad) 1 c) (hc : ∀ j u, (E.cells y)[j]? = some u → w.cell? (ad.add j) = some u)
    (h63 : xs.length + 1 ≤ maxLen) (hbytes : (xs.length + 1) * bytes ≤ 140737488355328)
    (h : ∀ g cap w', SRow w' e E (.slice (some ⟨g, 0, none⟩) (xs.length + 1) cap) (xs ++ [y]) → Frm (fun b => v.ownBlock = some b) w w' → (v.ownBlock = some g ∨ g = w.heap.size) → g < w'.heap.size →
      wpList P ops Q rest (a.put o.dst (.slice (some ⟨g, 0, none⟩) (xs.length + 1) cap)) w') : wpList P ops Q (o :: rest) a w := by
  refine wpList_append_lies w hgd s x t ho 0 e i z k bytes ht hi hz hsize hby hzs hk v xs.length (xs.flatMap E.cells) hs hrow ad 1 c (E.cells y) hx (by rw [E.len]; omega) hc (E.one y) (by decide) h63 hbytes (Nat.zero_le _) _ rfl ?_
  intro g cap w' h1 h2 h3 h4
  refine h g cap w' ?_ (Frm.of_grown h2) h3 h4
  show w'.ownsRow 0 e k _ (xs ++ [y]).length ((xs ++ [y]).flatMap E.cells)
  rw [List.length_append, List.flatMap_append]
  simpa using h1
end
end Go.Mem
/- append of one element, and of all of another slice, to a slice that the call made. -/
namespace Go.Mem
open Go.RowKit

theorem wpList_append_row {P : Program} {w : World} {ops : Array Oper} {rest : List Oper} {o : Oper} {a : Act} {Q : Exit → Act → World → Prop} (hgd : o.guard = none) (s x : Operand) (t : TypeId)
    (ho : o.op = .call { callee := .builtin .append, args := #[s, x], argTypes := #[t, t] })
    (e : TypeId) (i : TypeInfo) (z : Value) (bytes : Nat) (ht : P.underlying t = some (.slice e)) (hi : P.info? e = some i) (hz : i.zero = some z)
    (hsize : i.size = 1) (hby : i.bytes = bytes) (hzs : z.cells.size = 1) {α : Type} {enc : α → Value}
    (v : Value) (xs : List α) (hs : a.eval s = v) (hrow : Row w e enc v xs) (ad : Addr) (c : Nat) (y : α) (hx : a.eval x = .slice (some ad) 1 c) (hc : w.cell? ad = some (enc y)) (h1 : (enc y).oneCell' = true)
    (h63 : xs.length + 1 ≤ maxLen) (hbytes : (xs.length + 1) * bytes ≤ 140737488355328)
    (h : ∀ g cap w', Row w' e enc (.slice (some ⟨g, 0, none⟩) (xs.length + 1) cap) (xs ++ [y]) → Frm (fun b => v.ownBlock = some b) w w' → (v.ownBlock = some g ∨ g = w.heap.size) → g < w'.heap.size →
      wpList P ops Q rest (a.put o.dst (.slice (some ⟨g, 0, none⟩) (xs.length + 1) cap)) w') : wpList P ops Q (o :: rest) a w := by
  refine wpList_append_lies w hgd s x t ho 0 e i z 1 bytes ht hi hz hsize hby hzs (by decide) v xs.length (xs.map enc) hs hrow ad 1 c [enc y] hx rfl ?_ (by simpa using h1) (by decide) h63 hbytes (Nat.zero_le _) _ rfl ?_
  · intro j u hj
    cases j with
    | zero =>
      simp at hj
      subst hj
      have : ad.add 0 = ad := by cases ad; rfl
      rw [this]; exact hc
    | succ j => simp at hj
  · intro g cap w' h1 h2 h3 h4
    refine h g cap w' ?_ (Frm.of_grown h2) h3 h4
    show w'.ownsRow 0 e 1 _ (xs ++ [y]).length ((xs ++ [y]).map enc)
    rw [List.length_append, List.map_append]
    exact h1

theorem wpList_append_all {P : Program} {w : World} {ops : Array Oper} {rest : List Oper} {o : Oper} {a : Act} {Q : Exit → Act → World → Prop} (hgd : o.guard = none) (s x : Operand) (t : TypeId)
    (ho : o.op = .call { callee := .builtin .append, args := #[s, x], argTypes := #[t, t] })
    (e : TypeId) (i : TypeInfo) (z : Value) (bytes : Nat) (ht : P.underlying t = some (.slice e)) (hi : P.info? e = some i) (hz : i.zero = some z)
    (hsize : i.size = 1) (hby : i.bytes = bytes) (hzs : z.cells.size = 1) {α : Type} {enc : α → Value}
    (v : Value) (xs : List α) (hs : a.eval s = v) (hrow : Row w e enc v xs) (ad : Addr) (c : Nat) (ys : List α) (hx : a.eval x = .slice (some ad) ys.length c) (hc : ∀ j y, ys[j]? = some y → w.cell? (ad.add j) = some (enc y)) (h1 : ∀ y, (enc y).oneCell' = true)
    (hpos : 0 < ys.length) (h63 : xs.length + ys.length ≤ maxLen) (hbytes : (xs.length + ys.length) * bytes ≤ 140737488355328)
    (h : ∀ g cap w', Row w' e enc (.slice (some ⟨g, 0, none⟩) (xs.length + ys.length) cap) (xs ++ ys) → Frm (fun b => v.ownBlock = some b) w w' → (v.ownBlock = some g ∨ g = w.heap.size) → g < w'.heap.size →
      wpList P ops Q rest (a.put o.dst (.slice (some ⟨g, 0, none⟩) (xs.length + ys.length) cap)) w') : wpList P ops Q (o :: rest) a w := by
  refine wpList_append_lies w hgd s x t ho 0 e i z 1 bytes ht hi hz hsize hby hzs (by decide) v xs.length (xs.map enc) hs hrow ad ys.length c (ys.map enc) hx (by simp) ?_ ?_ hpos h63 hbytes (Nat.zero_le _) _ rfl ?_
  · intro j u hj
    rw [List.getElem?_map] at hj
    obtain ⟨y, hy, rfl⟩ := Option.map_eq_some_iff.1 hj
    exact hc j y hy
  · intro u hu
    obtain ⟨y, _, rfl⟩ := List.mem_map.1 hu
    exact h1 y
  · intro g cap w' h1 h2 h3 h4
    refine h g cap w' ?_ (Frm.of_grown h2) h3 h4
    show w'.ownsRow 0 e 1 _ (xs ++ ys).length ((xs ++ ys).map enc)
    rw [List.length_append, List.map_append]
    exact h1
end Go.Mem
/- append of all of a slice that came in (nil, empty or not), onto a row of the call's own. -/
namespace Go.Mem
open Go.RowKit
section
variable {P : Program} {w : World}
theorem run_append_sees (t ty e : TypeId) (i : TypeInfo) (z : Value) (bytes : Nat) (ht : P.underlying t = some (.slice e)) (hi : P.info? e = some i) (hz : i.zero = some z)
    (hsize : i.size = 1) (hby : i.bytes = bytes) (hzs : z.cells.size = 1) {α : Type} {enc : α → Value} (h1 : ∀ y, (enc y).oneCell' = true)
    (v : Value) (xs ys : List α) (hrow : Row w e enc v xs) (u : Value) (hs : Sees w enc u ys) (h63 : xs.length + ys.length ≤ maxLen) (hbytes : (xs.length + ys.length) * bytes ≤ 140737488355328) :
    ∃ v' w', (Builtin.append_ #[t, t] ty #[v, u]).run P w = .ok v' w' ∧ Row w' e enc v' (xs ++ ys) ∧ Frm (fun b => v.ownBlock = some b) w w' ∧ ∀ g, v'.ownBlock = some g → v.ownBlock = some g ∨ g = w.heap.size := by
  rcases hs with ⟨rfl, rfl⟩ | ⟨g, o, cap, rfl, hcap, _, hc⟩
  · refine ⟨v, w, ?_, by simpa using hrow, Frm.refl _ _, fun g hg => .inl hg⟩
    rcases hrow.2 with ⟨rfl, hl⟩ | ⟨g, cap, cur, rfl, _, _, hnc, _⟩
    · simp [Builtin.append_, run_underlying ht, sizeOf, typeInfo, hi, Builtin.lenOf, Builtin.firstCells]
    · simp [Builtin.append_, run_underlying ht, sizeOf, typeInfo, hi, Builtin.lenOf, Builtin.firstCells, hnc, storeCells]
  · obtain ⟨v', w', hrun, h2, h3, _, h5⟩ := run_append_own_at (P := P) (ty := ty) w 0 t e i z 1 bytes ht hi hz hsize hby hzs (by decide) v xs.length (xs.map enc) hrow ⟨g, o, none⟩ ys.length cap (ys.map enc) (by simp) (fun j u hj => by
      rw [List.getElem?_map] at hj
      obtain ⟨y, hy, rfl⟩ := Option.map_eq_some_iff.1 hj
      have e : (⟨g, o, none⟩ : Addr).add j = ⟨g, o + j, none⟩ := by simp only [Addr.add]; split <;> simp_all
      rw [e]; exact hc j y hy) (fun u hu => by
      obtain ⟨y, _, rfl⟩ := List.mem_map.1 hu
      exact h1 y) h63 hbytes (Nat.zero_le _)
    refine ⟨v', w', hrun, ?_, Frm.of_grown h3, fun g' hg' => ?_⟩
    · show w'.ownsRow 0 e 1 v' (xs ++ ys).length ((xs ++ ys).map enc)
      rw [List.length_append, List.map_append]; exact h2
    · rcases h5 with h5 | h5
      · exact .inl (by rw [← h5]; exact hg')
      · rw [h5] at hg'; cases hg'; exact .inr rfl
theorem wpList_append_sees {ops : Array Oper} {rest : List Oper} {o : Oper} {a : Act} {Q : Exit → Act → World → Prop} (hgd : o.guard = none) (s x : Operand) (t : TypeId)
    (ho : o.op = .call { callee := .builtin .append, args := #[s, x], argTypes := #[t, t] })
    (e : TypeId) (i : TypeInfo) (z : Value) (bytes : Nat) (ht : P.underlying t = some (.slice e)) (hi : P.info? e = some i) (hz : i.zero = some z)
    (hsize : i.size = 1) (hby : i.bytes = bytes) (hzs : z.cells.size = 1) {α : Type} {enc : α → Value} (h1 : ∀ y, (enc y).oneCell' = true)
    (v : Value) (xs ys : List α) (hv : a.eval s = v) (hrow : Row w e enc v xs) (u : Value) (hu : a.eval x = u) (hs : Sees w enc u ys) (h63 : xs.length + ys.length ≤ maxLen) (hbytes : (xs.length + ys.length) * bytes ≤ 140737488355328)
    (h : ∀ v' w', Row w' e enc v' (xs ++ ys) → Frm (fun b => v.ownBlock = some b) w w' → (∀ g, v'.ownBlock = some g → v.ownBlock = some g ∨ g = w.heap.size) → wpList P ops Q rest (a.put o.dst v') w') : wpList P ops Q (o :: rest) a w := by
  refine wpList_plain hgd fun K hK => ?_
  obtain ⟨v', w', hrun, h2, h3, h4⟩ := run_append_sees (P := P) t o.type e i z bytes ht hi hz hsize hby hzs h1 v xs ys hrow u hs h63 hbytes
  unfold Oper.wp execOp
  simp only [ho, resolve, invoke, builtin, Sem.run_bind, Sem.run_pure, Result.andThen_ok, List.map_toArray, List.map_cons, List.map_nil, hv, hu, hrun]
  exact hK _ _ (h v' w' h2 h3 h4)
end
end Go.Mem
/- append of one element onto a row, or onto a slice of no room that bears an address. -/
namespace Go.Mem
open Go.RowKit
section
variable {P : Program} {w : World}
theorem append_noroom (t ty e : TypeId) (i : TypeInfo) (z : Value) (bytes : Nat) (ht : P.underlying t = some (.slice e)) (hi : P.info? e = some i) (hz : i.zero = some z)
    (hsize : i.size = 1) (hby : i.bytes = bytes) (A : Option Addr) (ad : Addr) (m c : Nat) (hm : 0 < m) (h63 : m ≤ maxLen) (hbytes : m * bytes ≤ 140737488355328) :
    (Builtin.append_ #[t, t] ty #[.slice A 0 0, .slice (some ad) m c]).run P w = (Builtin.append_ #[t, t] ty #[.slice none 0 0, .slice (some ad) m c]).run P w := by
  have h1 : ¬ m ≤ 0 := by omega
  have h2 : ¬ (Builtin.nextslicecap m 0 * bytes > 2 ^ 48) := by
    have : Builtin.nextslicecap m 0 = m := by
      unfold Builtin.nextslicecap
      simp [hm]
    rw [this]; omega
  have h3 : ¬ m = 0 := by omega
  have h4 : ¬ (9223372036854775807 : Int) < (m : Int) := by have : maxLen = 9223372036854775807 := rfl; omega
  have h5 : ¬ (2 ^ 48 < m * bytes) := by omega
  have h6 : ∀ (a : Addr) (w : World), (loadCellsFrom a 0 0 #[]).run P w = .ok #[] w := fun a w => by simp [loadCellsFrom]
  cases A <;> simp [h3, h4, h5, loadCells, h6, Builtin.append_, run_underlying ht, sizeOf, typeInfo, hi, hsize, hby, Builtin.lenOf, Builtin.firstCells, h1, h2]
/-- A row, or a slice of no room that bears an address. -/
def WRow {α : Type} (w : World) (e : TypeId) (enc : α → Value) (v : Value) (l : List α) : Prop := Row w e enc v l ∨ (l = [] ∧ ∃ g, v = .slice (some ⟨g, 0, none⟩) 0 0)
theorem WRow.frm {α : Type} {S : Nat → Prop} {w w' : World} {e : TypeId} {enc : α → Value} {v : Value} {l : List α} (h : WRow w e enc v l) (hf : Frm S w w') (hS : ∀ g, v.ownBlock = some g → ¬ S g) : WRow w' e enc v l := h.imp (fun h => h.frm hf hS) id
theorem WRow.len {α : Type} {w : World} {e : TypeId} {enc : α → Value} {v : Value} {l : List α} (h : WRow w e enc v l) : l.length ≤ maxLen := by
  rcases h with h | ⟨rfl, _⟩
  · exact h.sees.len
  · exact Nat.zero_le _
theorem WRow.slice {α : Type} {w : World} {e : TypeId} {enc : α → Value} {v : Value} {l : List α} (h : WRow w e enc v l) : ∃ A c, v = .slice A l.length c ∧ (∀ g, A = some g → ∃ b, g = ⟨b, 0, none⟩) ∧ l.length ≤ c ∧ ∀ i x, l[i]? = some x → ∃ g, A = some ⟨g, 0, none⟩ ∧ g < w.heap.size ∧ w.cell? ⟨g, i, none⟩ = some (enc x) := by
  rcases h with h | ⟨rfl, g, rfl⟩
  · have hlt := h.lt
    rcases h.shape with ⟨rfl, rfl⟩ | ⟨g, cap, rfl, ho, h1, _, hc, _⟩
    · exact ⟨none, 0, rfl, fun g e => (by cases e), Nat.le_refl _, fun i x h => by simp at h⟩
    · exact ⟨_, cap, rfl, fun g' e => (by cases e; exact ⟨g, rfl⟩), h1, fun i x hx => ⟨g, rfl, hlt g ho, hc i x hx⟩⟩
  · exact ⟨_, 0, rfl, fun g' e => (by cases e; exact ⟨g, rfl⟩), Nat.le_refl _, fun i x h => by simp at h⟩
theorem run_append_wrow (t ty e : TypeId) (i : TypeInfo) (z : Value) (bytes : Nat) (ht : P.underlying t = some (.slice e)) (hi : P.info? e = some i) (hz : i.zero = some z)
    (hsize : i.size = 1) (hby : i.bytes = bytes) (hzs : z.cells.size = 1) {α : Type} {enc : α → Value} (h1 : ∀ y, (enc y).oneCell' = true)
    (v : Value) (xs ys : List α) (hrow : WRow w e enc v xs) (ad : Addr) (c : Nat) (hc : ∀ j y, ys[j]? = some y → w.cell? (ad.add j) = some (enc y)) (hpos : 0 < ys.length) (h63 : xs.length + ys.length ≤ maxLen) (hbytes : (xs.length + ys.length) * bytes ≤ 140737488355328) :
    ∃ g cap w', (Builtin.append_ #[t, t] ty #[v, .slice (some ad) ys.length c]).run P w = .ok (.slice (some ⟨g, 0, none⟩) (xs.length + ys.length) cap) w' ∧ Row w' e enc (.slice (some ⟨g, 0, none⟩) (xs.length + ys.length) cap) (xs ++ ys) ∧ Frm (fun b => v.ownBlock = some b) w w' ∧ (v.ownBlock = some g ∨ g = w.heap.size) ∧ g < w'.heap.size := by
  have main : ∀ v, Row w e enc v xs → ∃ g cap w', (Builtin.append_ #[t, t] ty #[v, .slice (some ad) ys.length c]).run P w = .ok (.slice (some ⟨g, 0, none⟩) (xs.length + ys.length) cap) w' ∧ Row w' e enc (.slice (some ⟨g, 0, none⟩) (xs.length + ys.length) cap) (xs ++ ys) ∧ Frm (fun b => v.ownBlock = some b) w w' ∧ (v.ownBlock = some g ∨ g = w.heap.size) ∧ g < w'.heap.size := by
    intro v hr
    obtain ⟨v', w', hrun, h2, h3, h4, h5⟩ := run_append_own_at (P := P) (ty := ty) w 0 t e i z 1 bytes ht hi hz hsize hby hzs (by decide) v xs.length (xs.map enc) hr ad ys.length c (ys.map enc) (by simp) (fun j u hj => by
      rw [List.getElem?_map] at hj
      obtain ⟨y, hy, rfl⟩ := Option.map_eq_some_iff.1 hj
      exact hc j y hy) (fun u hu => by
      obtain ⟨y, _, rfl⟩ := List.mem_map.1 hu
      exact h1 y) h63 hbytes (Nat.zero_le _)
    have hrow' : Row w' e enc v' (xs ++ ys) := by
      show w'.ownsRow 0 e 1 v' (xs ++ ys).length ((xs ++ ys).map enc)
      rw [List.length_append, List.map_append]; exact h2
    have hlt := hrow'.lt
    rcases hrow'.shape with ⟨_, e2⟩ | ⟨g, cap, rfl, ho, _⟩
    · rw [List.append_eq_nil_iff] at e2
      rw [e2.2] at hpos
      simp at hpos
    · rw [List.length_append] at hrow' hrun
      refine ⟨g, cap, w', hrun, hrow', Frm.of_grown h3, ?_, hlt g ho⟩
      rcases h5 with h5 | h5
      · exact .inl (by rw [← h5]; exact ho)
      · rw [ho] at h5; cases h5; exact .inr rfl
  rcases hrow with hrow | ⟨rfl, g, rfl⟩
  · exact main v hrow
  · obtain ⟨g', cap, w', hrun, h2, h3, h4, h5⟩ := main _ (Row.nil w e enc)
    rw [← append_noroom t ty e i z bytes ht hi hz hsize hby (some ⟨g, 0, none⟩) ad ys.length c hpos (by simpa using h63) (by simpa using hbytes)] at hrun
    refine ⟨g', cap, w', hrun, h2, h3.mono fun b _ hb => (by cases hb), ?_, h5⟩
    rcases h4 with h4 | h4
    · cases h4
    · exact .inr h4
theorem wpList_append_wrow {ops : Array Oper} {rest : List Oper} {o : Oper} {a : Act} {Q : Exit → Act → World → Prop} (hgd : o.guard = none) (s x : Operand) (t : TypeId)
    (ho : o.op = .call { callee := .builtin .append, args := #[s, x], argTypes := #[t, t] })
    (e : TypeId) (i : TypeInfo) (z : Value) (bytes : Nat) (ht : P.underlying t = some (.slice e)) (hi : P.info? e = some i) (hz : i.zero = some z)
    (hsize : i.size = 1) (hby : i.bytes = bytes) (hzs : z.cells.size = 1) {α : Type} {enc : α → Value} (h1 : ∀ y, (enc y).oneCell' = true)
    (v : Value) (xs ys : List α) (hv : a.eval s = v) (hrow : WRow w e enc v xs) (ad : Addr) (c : Nat) (hx : a.eval x = .slice (some ad) ys.length c) (hc : ∀ j y, ys[j]? = some y → w.cell? (ad.add j) = some (enc y)) (hpos : 0 < ys.length) (h63 : xs.length + ys.length ≤ maxLen) (hbytes : (xs.length + ys.length) * bytes ≤ 140737488355328)
    (h : ∀ g cap w', Row w' e enc (.slice (some ⟨g, 0, none⟩) (xs.length + ys.length) cap) (xs ++ ys) → Frm (fun b => v.ownBlock = some b) w w' → (v.ownBlock = some g ∨ g = w.heap.size) → g < w'.heap.size →
      wpList P ops Q rest (a.put o.dst (.slice (some ⟨g, 0, none⟩) (xs.length + ys.length) cap)) w') : wpList P ops Q (o :: rest) a w := by
  refine wpList_plain hgd fun K hK => ?_
  obtain ⟨g, cap, w', hrun, h2, h3, h4, h5⟩ := run_append_wrow (P := P) t o.type e i z bytes ht hi hz hsize hby hzs h1 v xs ys hrow ad c hc hpos h63 hbytes
  unfold Oper.wp execOp
  simp only [ho, resolve, invoke, builtin, Sem.run_bind, Sem.run_pure, Result.andThen_ok, List.map_toArray, List.map_cons, List.map_nil, hv, hx, hrun]
  exact hK _ _ (h g cap w' h2 h3 h4 h5)
end
end Go.Mem
/- A solver in memory. -/
namespace Go.Proofs.Ytfpjfogddepbkaa
open Go.RowKit Go.Mem Go.Sat
namespace SaW
theorem frm_alloc (w : World) (o : Obj) : Frm (fun _ => False) w (w.alloc o) := (Frm.refl _ w).alloc o
theorem frm_then {a b c : World} (h : Frm (fun _ => False) a b) (k : Frm (fun _ => False) b c) : Frm (fun _ => False) a c := h.trans k fun _ _ => id
theorem frm_cell {w w' : World} {a : Addr} {v : Value} (hf : Frm (fun _ => False) w w') (h : w.cell? a = some v) : w'.cell? a = some v :=
  (World.cell?_of_block (w := w) (hf.block a.block (World.block_lt_of_cell? _ _ h) id)).trans h
/-- What a block of a solver's is there for. -/
inductive Role where
  | me
  | vars
  | heap
  | place
  | map
  | wrow (n : Int)
  | learnt
  | trail
  | limits
  | cl (c : Nat)
  | lits (c : Nat)
def ptr (b : Nat) : Value := .pointer (some ⟨b, 0, none⟩)
def encC (ids : List Nat) (c : Nat) : Value := ptr (ids.getD c 0)
def encR (ids : List Nat) : Option Nat → Value
  | none => .pointer none
  | some c => encC ids c
def fcells (ids : List Nat) (x : Fact) : List Value := [.int .i64 x.lit, .int .i64 x.level, encR ids x.reason, .int .i64 x.score, .int .i64 x.phase]
theorem encR_one (ids : List Nat) : ∀ r : Option Nat, (encR ids r).oneCell' = true
  | none => rfl
  | some _ => rfl
def encF (ids : List Nat) : Enc Fact 5 := ⟨fcells ids, fun _ => rfl, fun x u hu => by
  simp only [fcells, List.mem_cons, List.not_mem_nil, or_false] at hu
  rcases hu with rfl | rfl | rfl | rfl | rfl
  · rfl
  · rfl
  · exact encR_one ids _
  · rfl
  · rfl⟩
abbrev iI : Int → Value := Value.int .i64
def vid (v : Value) : Value := v
/-- The solver's parts, and where they lie. -/
structure SRep (w : World) (R : Nat → Option Role) (p : Nat) (s : St) (ids : List Nat) (vv hv pv lv tv mv : Value) (bm : Nat) (kvs : List (Int × Value)) : Prop where
  box : w.heap[p]? = some (.cells #[vv, hv, pv, .map (some bm), lv, tv, mv, .int .i64 s.head, .int .i64 s.conflicts, .int .i64 s.added, .int .i64 s.bump, .bool s.broken] 49)
  vars : SRow w 73 (encF ids) vv s.vars
  heap : Row w 3 iI hv s.heap
  place : Row w 3 iI pv s.place
  learnt : Row w 58 (encC ids) lv s.learnt
  trail : Row w 3 iI tv s.trail
  limits : Row w 3 iI mv s.limits
  map : MapAt w bm iI vid kvs
  keys : kvs.map (·.1) = s.watches.map (·.1)
  rows : ∀ (i : Nat) (n : Int) (v : Value) (l : List Nat), kvs[i]? = some (n, v) → s.watches[i]? = some (n, l) → WRow w 58 (encC ids) v l ∧ ∀ g, v.ownBlock = some g → R g = some (.wrow n)
  idl : ids.length = s.cls.length
  cls : ∀ (c : Nat) (x : Cl), s.cls[c]? = some x → ∃ b v, ids[c]? = some b ∧ R b = some (.cl c) ∧ w.heap[b]? = some (.cells #[v, .bool x.learnt, .int .i64 x.score] 62) ∧ Row w 3 iI v x.lits ∧ ∀ g, v.ownBlock = some g → R g = some (.lits c)
  rme : R p = some .me
  rvars : ∀ g, vv.ownBlock = some g → R g = some .vars
  rheap : ∀ g, hv.ownBlock = some g → R g = some .heap
  rplace : ∀ g, pv.ownBlock = some g → R g = some .place
  rlearnt : ∀ g, lv.ownBlock = some g → R g = some .learnt
  rtrail : ∀ g, tv.ownBlock = some g → R g = some .trail
  rlimits : ∀ g, mv.ownBlock = some g → R g = some .limits
  rmap : R bm = some .map
  lt : ∀ b r, R b = some r → b < w.heap.size
  refs : (∀ x ∈ s.vars, ∀ c, x.reason = some c → c < s.cls.length) ∧ (∀ x ∈ s.watches, ∀ c ∈ x.2, c < s.cls.length) ∧ ∀ c ∈ s.learnt, c < s.cls.length
  wnd : (s.watches.map (·.1)).Nodup
  onec : ∀ b c, R b = some (.cl c) → ids[c]? = some b
def SolverAt (w : World) (R : Nat → Option Role) (p : Nat) (s : St) : Prop := ∃ ids vv hv pv lv tv mv bm kvs, SRep w R p s ids vv hv pv lv tv mv bm kvs
section
variable {w w' : World} {R : Nat → Option Role} {p : Nat} {s : St} {ids : List Nat} {vv hv pv lv tv mv : Value} {bm : Nat} {kvs : List (Int × Value)} {S : Nat → Prop}
theorem SRep.frm (h : SRep w R p s ids vv hv pv lv tv mv bm kvs) (hf : Frm S w w') (hS : ∀ b r, R b = some r → ¬ S b) : SRep w' R p s ids vv hv pv lv tv mv bm kvs :=
  ⟨blk_frm h.box hf (hS _ _ h.rme), h.vars.frm hf fun g hg => hS _ _ (h.rvars g hg), h.heap.frm hf fun g hg => hS _ _ (h.rheap g hg), h.place.frm hf fun g hg => hS _ _ (h.rplace g hg), h.learnt.frm hf fun g hg => hS _ _ (h.rlearnt g hg),
    h.trail.frm hf fun g hg => hS _ _ (h.rtrail g hg), h.limits.frm hf fun g hg => hS _ _ (h.rlimits g hg), h.map.frm hf (hS _ _ h.rmap), h.keys, fun i n v l h1 h2 => ⟨(h.rows i n v l h1 h2).1.frm hf fun g hg => hS _ _ ((h.rows i n v l h1 h2).2 g hg), (h.rows i n v l h1 h2).2⟩,
    h.idl, fun c x hx => by
      obtain ⟨b, v, h1, h2, h3, h4, h5⟩ := h.cls c x hx
      exact ⟨b, v, h1, h2, blk_frm h3 hf (hS _ _ h2), h4.frm hf fun g hg => hS _ _ (h5 g hg), h5⟩,
    h.rme, h.rvars, h.rheap, h.rplace, h.rlearnt, h.rtrail, h.rlimits, h.rmap, fun b r hb => Nat.lt_of_lt_of_le (h.lt b r hb) hf.size, h.refs, h.wnd, h.onec⟩
theorem SRep.frm0 (h : SRep w R p s ids vv hv pv lv tv mv bm kvs) (hf : Frm (fun _ => False) w w') : SRep w' R p s ids vv hv pv lv tv mv bm kvs := h.frm hf fun _ _ _ => id
theorem SolverAt.frm (h : SolverAt w R p s) (hf : Frm S w w') (hS : ∀ b r, R b = some r → ¬ S b) : SolverAt w' R p s := by
  obtain ⟨_, _, _, _, _, _, _, _, _, h⟩ := h
  exact ⟨_, _, _, _, _, _, _, _, _, h.frm hf hS⟩
theorem SolverAt.frm0 (h : SolverAt w R p s) (hf : Frm (fun _ => False) w w') : SolverAt w' R p s := h.frm hf fun _ _ _ => id
/-- What the solver's own cells hold. -/
theorem SRep.cells (h : SRep w R p s ids vv hv pv lv tv mv bm kvs) : w.cell? ⟨p, 0, none⟩ = some vv ∧ w.cell? ⟨p, 1, none⟩ = some hv ∧ w.cell? ⟨p, 2, none⟩ = some pv ∧ w.cell? ⟨p, 3, none⟩ = some (.map (some bm)) ∧ w.cell? ⟨p, 4, none⟩ = some lv ∧ w.cell? ⟨p, 5, none⟩ = some tv ∧ w.cell? ⟨p, 6, none⟩ = some mv ∧ w.cell? ⟨p, 7, none⟩ = some (.int .i64 s.head) ∧ w.cell? ⟨p, 8, none⟩ = some (.int .i64 s.conflicts) ∧ w.cell? ⟨p, 9, none⟩ = some (.int .i64 s.added) ∧ w.cell? ⟨p, 10, none⟩ = some (.int .i64 s.bump) ∧ w.cell? ⟨p, 11, none⟩ = some (.bool s.broken) :=
  ⟨blk_cell h.box 0, blk_cell h.box 1, blk_cell h.box 2, blk_cell h.box 3, blk_cell h.box 4, blk_cell h.box 5, blk_cell h.box 6, blk_cell h.box 7, blk_cell h.box 8, blk_cell h.box 9, blk_cell h.box 10, blk_cell h.box 11⟩
end
/-- An address that is a clause's. -/
def ClAt (R : Nat → Option Role) (A : Option Addr) : Option Nat → Prop
  | none => A = none
  | some c => ∃ b, A = some ⟨b, 0, none⟩ ∧ R b = some (.cl c)
theorem SRep.isAt {w : World} {R : Nat → Option Role} {p : Nat} {s : St} {ids : List Nat} {vv hv pv lv tv mv : Value} {bm : Nat} {kvs : List (Int × Value)} (h : SRep w R p s ids vv hv pv lv tv mv bm kvs) {A : Option Addr} {why : Option Nat} (hA : ClAt R A why) : Value.pointer A = encR ids why ∧ ∀ c, why = some c → c < s.cls.length := by
  cases why with
  | none => exact ⟨by rw [show A = none from hA]; rfl, fun c e => by cases e⟩
  | some c =>
    obtain ⟨b, rfl, hb⟩ := hA
    have hi := h.onec b c hb
    refine ⟨?_, fun d e => ?_⟩
    · show _ = ptr (ids.getD c 0)
      rw [List.getD_eq_getElem?_getD, hi]
      rfl
    · cases e
      have := (List.getElem?_eq_some_iff.1 hi).1
      rw [← h.idl]; exact this
theorem SRep.clAt {w : World} {R : Nat → Option Role} {p : Nat} {s : St} {ids : List Nat} {vv hv pv lv tv mv : Value} {bm : Nat} {kvs : List (Int × Value)} (h : SRep w R p s ids vv hv pv lv tv mv bm kvs) {c : Nat} (hc : c < s.cls.length) : ∃ b, encC ids c = .pointer (some ⟨b, 0, none⟩) ∧ R b = some (.cl c) ∧ ids[c]? = some b := by
  obtain ⟨b, v, h1, h2, _⟩ := h.cls c _ (List.getElem?_eq_getElem hc)
  refine ⟨b, ?_, h2, h1⟩
  show ptr (ids.getD c 0) = _
  rw [List.getD_eq_getElem?_getD, h1]
  rfl
theorem nth_get {α : Type} {l : List α} {i : Int} {x : α} (h : nth l i = some x) : ∃ k : Nat, i = k ∧ l[k]? = some x ∧ k < l.length := by
  unfold nth at h
  split at h
  · exact ⟨i.toNat, by omega, h, (List.getElem?_eq_some_iff.1 h).1⟩
  · cases h
theorem setN_get {α : Type} {l l' : List α} {i : Int} {x : α} (h : setN l i x = some l') : ∃ k : Nat, i = k ∧ k < l.length ∧ l' = l.set k x := by
  unfold setN at h
  split at h
  · rename_i hc
    exact ⟨i.toNat, by omega, hc.2, (Option.some.inj h).symm⟩
  · cases h
end SaW
end Go.Proofs.Ytfpjfogddepbkaa
