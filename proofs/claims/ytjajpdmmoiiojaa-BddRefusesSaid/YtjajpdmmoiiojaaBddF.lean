/- Diagrams of decisions: what each function of package bdd computes, as Lean functions over a store that is data. No program in sight. -/
import Derived.Test.YtjajpdmmoiiojaaMem
namespace Go.Bdd
open Go.Mem Go.RowKit

structure Sto where
  vars : Int
  room : Int
  l : List T3
  begun : Bool
  find : List (T3 × Int)
  known : List (T3 × Int)
  works : Int

def nth {α : Type} (l : List α) (i : Int) : Option α := if 0 ≤ i then l[i.toNat]? else none

def opened (s : Sto) : Sto := { s with begun := true }
def tick (s : Sto) : Sto := { opened s with works := IntKind.u64.wrap (s.works + 1) }
def push (s : Sto) (n : T3) : Sto := { s with l := s.l ++ [n], find := mput s.find n s.l.length }

def newF (vars room : Int) : Option Sto × Int :=
  if vars < 0 ∨ 256 < vars then (none, 91) else if room < 2 ∨ 16777216 < room then (none, 90) else
  (some { vars, room, l := [(vars, 0, 0), (vars, 1, 1)], begun := false, find := [], known := [], works := 0 }, 0)

def makeF (s : Sto) (v no yes : Int) : (Int × Int) × Sto :=
  if no = yes then ((no, 0), tick s) else
  match mget s.find (v, no, yes) with
  | some f => ((f, 0), tick s)
  | none => if s.room ≤ (s.l.length : Int) then ((0, 90), tick s) else (((s.l.length : Int), 0), push (tick s) (v, no, yes))

def varF (s : Sto) (v : Int) : (Int × Int) × Sto := if v < 0 ∨ s.vars ≤ v then ((0, 91), s) else makeF s v 0 1

def sideF (l : List T3) (f v : Int) : Option (Int × Int) := (nth l f).map fun n => if n.1 = v then n.2 else (f, f)

def mn3 (a b c : Int) : Int := if c < (if b < a then b else a) then c else (if b < a then b else a)
theorem mn3_if (a b c : Int) : (if c < (if b < a then b else a) then c else (if b < a then b else a)) = mn3 a b c := rfl

/-- What ite does where nothing is plain: rec is itself. -/
def iteRest (rec : Sto → Int → Int → Int → Option ((Int × Int) × Sto)) (s : Sto) (f g h : Int) : Option ((Int × Int) × Sto) :=
    match mget s.known (f, g, h) with
    | some r => some ((r, 0), opened s)
    | none =>
      match nth s.l f, nth s.l g, nth s.l h with
      | some nf, some ng, some nh =>
        match sideF s.l f (mn3 nf.1 ng.1 nh.1), sideF s.l g (mn3 nf.1 ng.1 nh.1), sideF s.l h (mn3 nf.1 ng.1 nh.1) with
        | some f', some g', some h' =>
          match rec (opened s) f'.1 g'.1 h'.1 with
          | none => none
          | some (r0, s0) => if r0.2 ≠ 0 then some ((0, r0.2), s0) else
            match rec s0 f'.2 g'.2 h'.2 with
            | none => none
            | some (r1, s1) => if r1.2 ≠ 0 then some ((0, r1.2), s1) else
              some ((makeF s1 (mn3 nf.1 ng.1 nh.1) r0.1 r1.1).1, if (makeF s1 (mn3 nf.1 ng.1 nh.1) r0.1 r1.1).1.2 = 0 then
                { (makeF s1 (mn3 nf.1 ng.1 nh.1) r0.1 r1.1).2 with known := mput (makeF s1 (mn3 nf.1 ng.1 nh.1) r0.1 r1.1).2.known (f, g, h) (makeF s1 (mn3 nf.1 ng.1 nh.1) r0.1 r1.1).1.1 } else (makeF s1 (mn3 nf.1 ng.1 nh.1) r0.1 r1.1).2)
        | _, _, _ => none
      | _, _, _ => none
def iteF : Nat → Sto → Int → Int → Int → Option ((Int × Int) × Sto)
  | 0, _, _, _, _ => none
  | k + 1, s, f, g, h => if f = 1 ∨ g = h then some ((g, 0), s) else if f = 0 then some ((h, 0), s) else if g = 1 ∧ h = 0 then some ((f, 0), s) else iteRest (iteF k) s f g h

/-- Are nodes there? -/
def inB (s : Sto) (f : Int) : Bool := decide (0 ≤ f ∧ f < (s.l.length : Int))
def IteF (k : Nat) (s : Sto) (f g h : Int) : Option ((Int × Int) × Sto) := if inB s f && inB s g && inB s h then iteF k s f g h else some ((0, 92), s)
def iffF (k : Nat) (s : Sto) (f g : Int) : Option ((Int × Int) × Sto) :=
  match IteF k s g 0 1 with
  | none => none
  | some (n, s1) => if n.2 ≠ 0 then some ((0, n.2), s1) else IteF k s1 f g n.1

section
variable {σ : Type}
def overF (lst : σ → List T3) (one : σ → Int → Int → Int → Option ((Int × Int) × σ)) : Nat → σ → List (Int × Int) → Int → Option ((Int × Int) × σ × List (Int × Int))
  | 0, _, _, _ => none
  | k + 1, s, d, f =>
    if f < 2 then some ((f, 0), s, d) else
    match mget d f with
    | some r => some ((r, 0), s, d)
    | none =>
      match nth (lst s) f with
      | none => none
      | some n =>
        match overF lst one k s d n.2.1 with
        | none => none
        | some (r0, s0, d0) => if r0.2 ≠ 0 then some ((0, r0.2), s0, d0) else
          match overF lst one k s0 d0 n.2.2 with
          | none => none
          | some (r1, s1, d1) => if r1.2 ≠ 0 then some ((0, r1.2), s1, d1) else
            match one s1 n.1 r0.1 r1.1 with
            | none => none
            | some (r, s2) => some (r, s2, if r.2 = 0 then mput d1 f r.1 else d1)
end
def existsOne (k : Nat) (vars : List Int) (s : Sto) (v no yes : Int) : Option ((Int × Int) × Sto) := if v ∈ vars then iteF k s no 1 yes else some (makeF s v no yes)
def badVar (s : Sto) (v : Int) : Bool := decide (v < 0 ∨ s.vars ≤ v)
def existsF (k : Nat) (s : Sto) (f : Int) (vars : List Int) : Option ((Int × Int) × Sto) :=
  if inB s f = false then some ((0, 92), s) else if vars.any (badVar s) then some ((0, 91), s) else
  (overF Sto.l (existsOne k vars) k s [] f).map fun x => (x.1, x.2.1)
def supportF (k : Nat) (s : Sto) (f : Int) : Option (List (Int × Int)) :=
  (overF (σ := List (Int × Int)) (fun _ => s.l) (fun out v _ _ => some ((f, 0), mput out v v)) k [] [] f).map fun x => x.2.1
def sizeF (k : Nat) (s : Sto) (f : Int) : Option (Int × Int) :=
  if inB s f = false then some (0, 92) else
  (overF (σ := Int) (fun _ => s.l) (fun n _ _ _ => some ((f, 0), wrap64 (n + 1))) k 0 [] f).map fun x => (x.2.1, 0)
def renameOne (k : Nat) (to : List Int) (s : Sto) (v no yes : Int) : Option ((Int × Int) × Sto) :=
  match nth to v with
  | none => none
  | some t => if (makeF s t 0 1).1.2 ≠ 0 then some ((0, (makeF s t 0 1).1.2), (makeF s t 0 1).2) else iteF k (makeF s t 0 1).2 (makeF s t 0 1).1.1 yes no
/-- Do two of some variables come to one? -/
def clash (to : List Int) : List Int → Bool
  | [] => false
  | v :: r => r.any (fun u => nth to u == nth to v) || clash to r
def renameF (k : Nat) (s : Sto) (f : Int) (to : List Int) : Option ((Int × Int) × Sto) :=
  if inB s f = false then some ((0, 92), s) else if (to.length : Int) ≠ s.vars ∨ to.any (badVar s) then some ((0, 91), s) else
  match supportF k s f with
  | none => none
  | some out => if clash to (out.map (·.1)) then some ((0, 91), s) else (overF Sto.l (renameOne k to) k s [] f).map fun x => (x.1, x.2.1)

def evalL (l : List T3) (is : List Bool) : Nat → Int → Option Int
  | 0, _ => none
  | k + 1, f => if f ≤ 1 then some f else
    match nth l f with
    | none => none
    | some n => match nth is n.1 with
      | none => none
      | some b => evalL l is k (if b then n.2.2 else n.2.1)
def evalF (k : Nat) (s : Sto) (f : Int) (is : List Bool) : Option (Bool × Int) :=
  if inB s f = false then some (false, 92) else if (is.length : Int) ≠ s.vars then some (false, 91) else (evalL s.l is k f).map fun r => (r == 1, 0)
def pickL (l : List T3) : Nat → Int → List Bool → Option (List Bool)
  | 0, _, _ => none
  | k + 1, f, way => if f ≤ 1 then some way else
    match nth l f with
    | none => none
    | some n => if n.2.1 = 0 then (if 0 ≤ n.1 ∧ n.1 < way.length then pickL l k n.2.2 (way.set n.1.toNat true) else none) else pickL l k n.2.1 way
def pickF (k : Nat) (s : Sto) (f : Int) : Option (List Bool × Int) :=
  if inB s f = false ∨ f = 0 then some ([], 92) else (pickL s.l k f (List.replicate s.vars.toNat false)).map fun w => (w, 0)
/-- A number of 64 bits, moved to the left by so many. -/
def shlU (c n : Int) : Int := IntKind.u64.wrap (c * 2 ^ min (IntKind.u64.wrap n).toNat 64)
def fromF (l : List T3) : Nat → List (Int × Int) → Int → Int → Option (Int × List (Int × Int))
  | 0, _, _, _ => none
  | k + 1, d, f, v => if f = 0 then some (0, d) else
    match nth l f with
    | none => none
    | some n => match mget d f with
      | some c => some (shlU c (wrap64 (n.1 - v)), d)
      | none => if f ≤ 1 then some (shlU 1 (wrap64 (n.1 - v)), mput d f 1) else
        match fromF l k d n.2.1 (wrap64 (n.1 + 1)) with
        | none => none
        | some (a, d0) => match fromF l k d0 n.2.2 (wrap64 (n.1 + 1)) with
          | none => none
          | some (b, d1) => some (shlU (IntKind.u64.wrap (a + b)) (wrap64 (n.1 - v)), mput d1 f (IntKind.u64.wrap (a + b)))
def countF (k : Nat) (s : Sto) (f : Int) : Option (Int × Int) := if inB s f = false then some (0, 92) else (fromF s.l k [] f 0).map fun x => (x.1, 0)
end Go.Bdd
