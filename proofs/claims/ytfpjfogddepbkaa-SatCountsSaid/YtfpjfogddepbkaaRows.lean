/-
  No cell of these rows narrows 'for every input' (looked for: loops, veiled, ifaces, maps, wideKeys, modest, calm, conditions, laid).
  DERIVED. THE GIVEN ROWS OF THIS SEAT. 4 by the template 'for every input the law returns true; each argument reads behind the call as it read before'; 0 by the template 'total and deterministic' (their statements: YtfpjfogddepbkaaTotals.lean).
  GIVEN WITH THE SEED: the statements are not yours to turn. If you find one false, say at which input.
  Laid BY PROGRAM, IN A SANDBOX (cutbox-rows.mjs): the forced cells as the released guide's own fill.sh prints them over the translation c12ab1ab1f09b8b9… (all of the seat's roots in one cut). By AI agents, Wed Nov 11 2026. No macro, syntax, notation, axiom, sorry.
-/
import Derived.Test.YtfpjfogddepbkaaChecked
import GoSem.Claim
import GoSem.ClaimJoined
import GoSem.ClaimMapViews
import Derived.JoinedTies
import Derived.KernelRfl
namespace Go.Proofs.Ytfpjfogddepbkaa
/- THE CELL 'sum', in the pinned program and in every row, IS THE sha256 OF THE DUMP (.gsa) THAT YtfpjfogddepbkaaProg.lean LOADS. Nothing in Lean hashes anything: it is a label: what it is worth is what the hold of that sum in a sandbox is worth. -/
noncomputable def Try.pinned : Pinned := { name := "ytfpjfogddepbkaa", sum := "c12ab1ab1f09b8b95e58ce868cbde95bdd1156530bbe32ddd05b9f8906e4c6fd", checked := Try.checked }
namespace Rows
def none {H : Type} : Left H := { results := [], args := [] }

/-- 'skualaw07.SatChains': WHATEVER THE INPUT: true; the input reads as it did. -/
def satChainsSpec : ChangeSpec := { name := "satChains", fn := fun _ => fun
  | [d1, d2] => { results := [.lit (.bool true)], args := [d1, d2] }
  | _ => none }
def satChainsRow : OpenClaim := { program := "ytfpjfogddepbkaa", sum := "c12ab1ab1f09b8b95e58ce868cbde95bdd1156530bbe32ddd05b9f8906e4c6fd", func := "skua/skualaw07.SatChains", spec := "satChains", unfollowed := true, recurses := true, apart := false }
def SatChainsSaid : Prop := satChainsRow.holds Try.pinned (OpenSpec.ofChange satChainsSpec)

/-- ITS FALSE NEIGHBOUR: 'it returns false'. Refute it at one input. -/
def satChainsWrong : ChangeSpec := { name := "satChains", fn := fun _ => fun
  | [d1, d2] => { results := [.lit (.bool false)], args := [d1, d2] }
  | _ => none }
def SatChainsWrongFalsely : Prop := satChainsRow.holds Try.pinned (OpenSpec.ofChange satChainsWrong)

/-- 'skualaw07.SatRefuses': WHATEVER THE INPUT: true; the input reads as it did. -/
def satRefusesSpec : ChangeSpec := { name := "satRefuses", fn := fun _ => fun
  | [d1, d2] => { results := [.lit (.bool true)], args := [d1, d2] }
  | _ => none }
def satRefusesRow : OpenClaim := { program := "ytfpjfogddepbkaa", sum := "c12ab1ab1f09b8b95e58ce868cbde95bdd1156530bbe32ddd05b9f8906e4c6fd", func := "skua/skualaw07.SatRefuses", spec := "satRefuses", unfollowed := true, recurses := true, apart := false }
def SatRefusesSaid : Prop := satRefusesRow.holds Try.pinned (OpenSpec.ofChange satRefusesSpec)

/-- ITS FALSE NEIGHBOUR: 'it returns false'. Refute it at one input. -/
def satRefusesWrong : ChangeSpec := { name := "satRefuses", fn := fun _ => fun
  | [d1, d2] => { results := [.lit (.bool false)], args := [d1, d2] }
  | _ => none }
def SatRefusesWrongFalsely : Prop := satRefusesRow.holds Try.pinned (OpenSpec.ofChange satRefusesWrong)

/-- 'skualaw07.SatCounts': WHATEVER THE INPUT: true; the input reads as it did. -/
def satCountsSpec : ChangeSpec := { name := "satCounts", fn := fun _ => fun
  | [d] => { results := [.lit (.bool true)], args := [d] }
  | _ => none }
def satCountsRow : OpenClaim := { program := "ytfpjfogddepbkaa", sum := "c12ab1ab1f09b8b95e58ce868cbde95bdd1156530bbe32ddd05b9f8906e4c6fd", func := "skua/skualaw07.SatCounts", spec := "satCounts", unfollowed := true, recurses := true, apart := false }
def SatCountsSaid : Prop := satCountsRow.holds Try.pinned (OpenSpec.ofChange satCountsSpec)

/-- ITS FALSE NEIGHBOUR: 'it returns false'. Refute it at one input. -/
def satCountsWrong : ChangeSpec := { name := "satCounts", fn := fun _ => fun
  | [d] => { results := [.lit (.bool false)], args := [d] }
  | _ => none }
def SatCountsWrongFalsely : Prop := satCountsRow.holds Try.pinned (OpenSpec.ofChange satCountsWrong)

/-- 'skualaw07.SatHoles': WHATEVER THE INPUT: true; the input reads as it did. -/
def satHolesSpec : ChangeSpec := { name := "satHoles", fn := fun _ => fun
  | [d] => { results := [.lit (.bool true)], args := [d] }
  | _ => none }
def satHolesRow : OpenClaim := { program := "ytfpjfogddepbkaa", sum := "c12ab1ab1f09b8b95e58ce868cbde95bdd1156530bbe32ddd05b9f8906e4c6fd", func := "skua/skualaw07.SatHoles", spec := "satHoles", unfollowed := true, recurses := true, apart := false }
def SatHolesSaid : Prop := satHolesRow.holds Try.pinned (OpenSpec.ofChange satHolesSpec)

/-- ITS FALSE NEIGHBOUR: 'it returns false'. Refute it at one input. -/
def satHolesWrong : ChangeSpec := { name := "satHoles", fn := fun _ => fun
  | [d] => { results := [.lit (.bool false)], args := [d] }
  | _ => none }
def SatHolesWrongFalsely : Prop := satHolesRow.holds Try.pinned (OpenSpec.ofChange satHolesWrong)

/- THE SECOND FORM. 'bulk': how many values and letters a reading holds, each counted each time it is reached (what is shared counts as often as it is met; a slice's spare places count too). A statement '..UptoSaid' is the law's where the arguments, and the package variables that the reading takes, are together of bulk at most 1048576: NARROWER than '..Said'. Prove '..Said' where nothing that the law and all that it calls make is longer than what came in: it says more and counts as full. Else prove '..UptoSaid'. A law counts once. -/
mutual
def uptoBulk {H : Type} : DataW H → Nat
  | .lit (.string bytes) => bytes.length + 1
  | .lit _ => 1
  | .nil => 1
  | .ptr d => uptoBulk d + 1
  | .slice elems spare => uptoBulkAll elems + uptoBulkAll spare + 1
  | .agg parts => uptoBulkAll parts + 1
  | .iface _ d => uptoBulk d + 1
  | .map entries => uptoBulkEntries entries + 1
  | .held _ => 1
def uptoBulkAll {H : Type} : List (DataW H) → Nat
  | [] => 0
  | d :: r => uptoBulk d + uptoBulkAll r
def uptoBulkEntries {H : Type} : List (Lit × DataW H) → Nat
  | [] => 0
  | x :: r => uptoBulkEntry x + uptoBulkEntries r
def uptoBulkEntry {H : Type} : Lit × DataW H → Nat
  | (.string bytes, d) => bytes.length + uptoBulk d + 1
  | (_, d) => uptoBulk d + 1
 end
def uptoSmall : (H : Type) → List (DataW H) → Bool := fun _ ds => decide (uptoBulkAll ds ≤ 1048576)
def OpenSpec.upto (s : _root_.Go.ChangeSpec) : _root_.Go.OpenSpec := { _root_.Go.OpenSpec.ofChange s with cond := some uptoSmall }

/-- 'skualaw07.SatChains', WHERE WHAT IT READS IS OF BULK AT MOST 1048576: true; the input reads as it did. -/
def satChainsUptoRow : OpenClaim := { program := "ytfpjfogddepbkaa", sum := "c12ab1ab1f09b8b95e58ce868cbde95bdd1156530bbe32ddd05b9f8906e4c6fd", func := "skua/skualaw07.SatChains", spec := "satChains", unfollowed := true, recurses := true, apart := false, narrowed := true }
def SatChainsUptoSaid : Prop := satChainsUptoRow.holds Try.pinned (OpenSpec.upto satChainsSpec)

/-- 'skualaw07.SatRefuses', WHERE WHAT IT READS IS OF BULK AT MOST 1048576: true; the input reads as it did. -/
def satRefusesUptoRow : OpenClaim := { program := "ytfpjfogddepbkaa", sum := "c12ab1ab1f09b8b95e58ce868cbde95bdd1156530bbe32ddd05b9f8906e4c6fd", func := "skua/skualaw07.SatRefuses", spec := "satRefuses", unfollowed := true, recurses := true, apart := false, narrowed := true }
def SatRefusesUptoSaid : Prop := satRefusesUptoRow.holds Try.pinned (OpenSpec.upto satRefusesSpec)

/-- 'skualaw07.SatCounts', WHERE WHAT IT READS IS OF BULK AT MOST 1048576: true; the input reads as it did. -/
def satCountsUptoRow : OpenClaim := { program := "ytfpjfogddepbkaa", sum := "c12ab1ab1f09b8b95e58ce868cbde95bdd1156530bbe32ddd05b9f8906e4c6fd", func := "skua/skualaw07.SatCounts", spec := "satCounts", unfollowed := true, recurses := true, apart := false, narrowed := true }
def SatCountsUptoSaid : Prop := satCountsUptoRow.holds Try.pinned (OpenSpec.upto satCountsSpec)

/-- 'skualaw07.SatHoles', WHERE WHAT IT READS IS OF BULK AT MOST 1048576: true; the input reads as it did. -/
def satHolesUptoRow : OpenClaim := { program := "ytfpjfogddepbkaa", sum := "c12ab1ab1f09b8b95e58ce868cbde95bdd1156530bbe32ddd05b9f8906e4c6fd", func := "skua/skualaw07.SatHoles", spec := "satHoles", unfollowed := true, recurses := true, apart := false, narrowed := true }
def SatHolesUptoSaid : Prop := satHolesUptoRow.holds Try.pinned (OpenSpec.upto satHolesSpec)

end Rows
end Go.Proofs.Ytfpjfogddepbkaa
