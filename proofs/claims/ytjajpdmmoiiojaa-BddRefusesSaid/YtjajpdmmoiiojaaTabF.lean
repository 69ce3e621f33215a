/- Tables of truth: what the document's answer computes, as plain functions. No program in sight. -/
import Derived.Test.YtjajpdmmoiiojaaBddF
namespace Go.Bdd
open Go.Mem Go.RowKit

def fitF (v n : Int) : Int := v % n
def countT (t : List Bool) : Nat := t.countP id
def atF (way : List Bool) : Nat := way.foldl (fun a b => 2 * a + b.toNat) 0
/-- The way number i of n variables. -/
def wayF (n i : Nat) : List Bool := (List.range n).map fun v => i.testBit (n - 1 - v)
def bit (n v : Nat) : Nat := 2 ^ (n - 1 - v)
def tat (t : List Bool) (i : Nat) : Bool := t.getD i false
def asksF (t : List Bool) (n v : Nat) : Bool := (List.range t.length).any fun i => tat t i != tat t (i ^^^ bit n v)

def toAt (to : List Int) (v : Nat) : Int := to.getD v 0
def badPair (t : List Bool) (n : Nat) (to : List Int) (v u : Nat) : Bool := toAt to v == toAt to u && (asksF t n v && asksF t n u)
def goodVar (t : List Bool) (n : Nat) (to : List Int) (v : Nat) : Bool := decide (0 ≤ toAt to v ∧ toAt to v < n) && (List.range v).all fun u => !badPair t n to v u
def renamesF (t : List Bool) (n : Nat) (to : List Int) : Bool := decide (to.length = n) && (List.range n).all (goodVar t n to)
def oldWay (t : List Bool) (n : Nat) (to : List Int) (i : Nat) : List Bool := (List.range n).map fun v => asksF t n v && tat (wayF n i) (toAt to v).toNat
def renameT (t : List Bool) (n : Nat) (to : List Int) : List Bool := (List.range t.length).map fun i => tat t (atF (oldWay t n to i))
def exist1 (t : List Bool) (n v : Nat) : List Bool := (List.range t.length).map fun i => tat t i || tat t (i ^^^ bit n v)
def existsT (t : List Bool) (n : Nat) (vars : List Int) : List Bool := vars.foldl (fun t v => exist1 t n v.toNat) t
structure ActF where
  kind : Int
  a : Int
  b : Int
  c : Int
  vars : List Int
def tab (l : List (List Bool)) (a : Int) : List Bool := l.getD a.toNat []
def doBit (n : Nat) (x : ActF) (l : List (List Bool)) (i : Nat) : Bool :=
  if x.kind = 0 then tat (wayF n i) x.a.toNat else if x.kind = 1 then (tat (tab l x.a) i && tat (tab l x.b) i) || (!tat (tab l x.a) i && tat (tab l x.c) i)
  else if x.kind = 2 then !tat (tab l x.a) i else if x.kind = 3 then tat (tab l x.a) i && tat (tab l x.b) i else if x.kind = 4 then tat (tab l x.a) i || tat (tab l x.b) i else tat (tab l x.a) i == tat (tab l x.b) i
def doT (n : Nat) (x : ActF) (l : List (List Bool)) : List Bool :=
  if x.kind = 6 then existsT (tab l x.a) n x.vars else if x.kind = 7 then renameT (tab l x.a) n x.vars else (List.range (2 ^ n)).map (doBit n x l)
end Go.Bdd
