/-
  No cell of these rows narrows 'for every input' (looked for: loops, veiled, ifaces, maps, wideKeys, modest, calm, conditions, laid).
  DERIVED. THE GIVEN ROWS OF THIS SEAT. 6 by the template 'for every input the law returns true; each argument reads behind the call as it read before'; 0 by the template 'total and deterministic' (their statements: YtngjhimhmpbofaaTotals.lean).
  GIVEN WITH THE SEED: the statements are not yours to turn. If you find one false, say at which input.
  Laid BY PROGRAM, IN A SANDBOX (cutbox-rows.mjs): the forced cells as the released guide's own fill.sh prints them over the translation c33b9fc3a2350418… (all of the seat's roots in one cut). By AI agents, Wed Nov 11 2026. No macro, syntax, notation, axiom, sorry.
-/
import Derived.Test.YtngjhimhmpbofaaChecked
import GoSem.Claim
import GoSem.ClaimJoined
import GoSem.ClaimMapViews
import Derived.JoinedTies
import Derived.KernelRfl
namespace Go.Proofs.Ytngjhimhmpbofaa
/- THE CELL 'sum', in the pinned program and in every row, IS THE sha256 OF THE DUMP (.gsa) THAT YtngjhimhmpbofaaProg.lean LOADS. Nothing in Lean hashes anything: it is a label: what it is worth is what the hold of that sum in a sandbox is worth. -/
noncomputable def Try.pinned : Pinned := { name := "ytngjhimhmpbofaa", sum := "c33b9fc3a2350418b4055874759324ad89923a62d943e25ea42738382ecad66c", checked := Try.checked }
namespace Rows
def none {H : Type} : Left H := { results := [], args := [] }

/-- 'forkledgerlaw11.JustifyAllows': WHATEVER THE INPUT: true; the input reads as it did. -/
def justifyAllowsSpec : ChangeSpec := { name := "justifyAllows", fn := fun _ => fun
  | [d1, d2, d3] => { results := [.lit (.bool true)], args := [d1, d2, d3] }
  | _ => none }
def justifyAllowsRow : OpenClaim := { program := "ytngjhimhmpbofaa", sum := "c33b9fc3a2350418b4055874759324ad89923a62d943e25ea42738382ecad66c", func := "forkledger/forkledgerlaw11.JustifyAllows", spec := "justifyAllows", unfollowed := true, recurses := true, apart := false }
def JustifyAllowsSaid : Prop := justifyAllowsRow.holds Try.pinned (OpenSpec.ofChange justifyAllowsSpec)

/-- ITS FALSE NEIGHBOUR: 'it returns false'. Refute it at one input. -/
def justifyAllowsWrong : ChangeSpec := { name := "justifyAllows", fn := fun _ => fun
  | [d1, d2, d3] => { results := [.lit (.bool false)], args := [d1, d2, d3] }
  | _ => none }
def JustifyAllowsWrongFalsely : Prop := justifyAllowsRow.holds Try.pinned (OpenSpec.ofChange justifyAllowsWrong)

/-- 'forkledgerlaw11.JustifyEach': WHATEVER THE INPUT: true; the input reads as it did. -/
def justifyEachSpec : ChangeSpec := { name := "justifyEach", fn := fun _ => fun
  | [d1, d2] => { results := [.lit (.bool true)], args := [d1, d2] }
  | _ => none }
def justifyEachRow : OpenClaim := { program := "ytngjhimhmpbofaa", sum := "c33b9fc3a2350418b4055874759324ad89923a62d943e25ea42738382ecad66c", func := "forkledger/forkledgerlaw11.JustifyEach", spec := "justifyEach", unfollowed := true, recurses := true, apart := false }
def JustifyEachSaid : Prop := justifyEachRow.holds Try.pinned (OpenSpec.ofChange justifyEachSpec)

/-- ITS FALSE NEIGHBOUR: 'it returns false'. Refute it at one input. -/
def justifyEachWrong : ChangeSpec := { name := "justifyEach", fn := fun _ => fun
  | [d1, d2] => { results := [.lit (.bool false)], args := [d1, d2] }
  | _ => none }
def JustifyEachWrongFalsely : Prop := justifyEachRow.holds Try.pinned (OpenSpec.ofChange justifyEachWrong)

/-- 'forkledgerlaw11.JustifyGrows': WHATEVER THE INPUT: true; the input reads as it did. -/
def justifyGrowsSpec : ChangeSpec := { name := "justifyGrows", fn := fun _ => fun
  | [d1, d2, d3, d4] => { results := [.lit (.bool true)], args := [d1, d2, d3, d4] }
  | _ => none }
def justifyGrowsRow : OpenClaim := { program := "ytngjhimhmpbofaa", sum := "c33b9fc3a2350418b4055874759324ad89923a62d943e25ea42738382ecad66c", func := "forkledger/forkledgerlaw11.JustifyGrows", spec := "justifyGrows", unfollowed := true, recurses := true, apart := false }
def JustifyGrowsSaid : Prop := justifyGrowsRow.holds Try.pinned (OpenSpec.ofChange justifyGrowsSpec)

/-- ITS FALSE NEIGHBOUR: 'it returns false'. Refute it at one input. -/
def justifyGrowsWrong : ChangeSpec := { name := "justifyGrows", fn := fun _ => fun
  | [d1, d2, d3, d4] => { results := [.lit (.bool false)], args := [d1, d2, d3, d4] }
  | _ => none }
def JustifyGrowsWrongFalsely : Prop := justifyGrowsRow.holds Try.pinned (OpenSpec.ofChange justifyGrowsWrong)

/-- 'forkledgerlaw11.JustifyOutside': WHATEVER THE INPUT: true; the input reads as it did. -/
def justifyOutsideSpec : ChangeSpec := { name := "justifyOutside", fn := fun _ => fun
  | [d1, d2, d3] => { results := [.lit (.bool true)], args := [d1, d2, d3] }
  | _ => none }
def justifyOutsideRow : OpenClaim := { program := "ytngjhimhmpbofaa", sum := "c33b9fc3a2350418b4055874759324ad89923a62d943e25ea42738382ecad66c", func := "forkledger/forkledgerlaw11.JustifyOutside", spec := "justifyOutside", unfollowed := true, recurses := true, apart := false }
def JustifyOutsideSaid : Prop := justifyOutsideRow.holds Try.pinned (OpenSpec.ofChange justifyOutsideSpec)

/-- ITS FALSE NEIGHBOUR: 'it returns false'. Refute it at one input. -/
def justifyOutsideWrong : ChangeSpec := { name := "justifyOutside", fn := fun _ => fun
  | [d1, d2, d3] => { results := [.lit (.bool false)], args := [d1, d2, d3] }
  | _ => none }
def JustifyOutsideWrongFalsely : Prop := justifyOutsideRow.holds Try.pinned (OpenSpec.ofChange justifyOutsideWrong)

/-- 'forkledgerlaw11.JustifyBackers': WHATEVER THE INPUT: true; the input reads as it did. -/
def justifyBackersSpec : ChangeSpec := { name := "justifyBackers", fn := fun _ => fun
  | [d1, d2, d3] => { results := [.lit (.bool true)], args := [d1, d2, d3] }
  | _ => none }
def justifyBackersRow : OpenClaim := { program := "ytngjhimhmpbofaa", sum := "c33b9fc3a2350418b4055874759324ad89923a62d943e25ea42738382ecad66c", func := "forkledger/forkledgerlaw11.JustifyBackers", spec := "justifyBackers", unfollowed := true, recurses := true, apart := false }
def JustifyBackersSaid : Prop := justifyBackersRow.holds Try.pinned (OpenSpec.ofChange justifyBackersSpec)

/-- ITS FALSE NEIGHBOUR: 'it returns false'. Refute it at one input. -/
def justifyBackersWrong : ChangeSpec := { name := "justifyBackers", fn := fun _ => fun
  | [d1, d2, d3] => { results := [.lit (.bool false)], args := [d1, d2, d3] }
  | _ => none }
def JustifyBackersWrongFalsely : Prop := justifyBackersRow.holds Try.pinned (OpenSpec.ofChange justifyBackersWrong)

/-- 'forkledgerlaw11.JustifyLocks': WHATEVER THE INPUT: true; the input reads as it did. -/
def justifyLocksSpec : ChangeSpec := { name := "justifyLocks", fn := fun _ => fun
  | [d1, d2, d3, d4, d5] => { results := [.lit (.bool true)], args := [d1, d2, d3, d4, d5] }
  | _ => none }
def justifyLocksRow : OpenClaim := { program := "ytngjhimhmpbofaa", sum := "c33b9fc3a2350418b4055874759324ad89923a62d943e25ea42738382ecad66c", func := "forkledger/forkledgerlaw11.JustifyLocks", spec := "justifyLocks", unfollowed := true, recurses := true, apart := false }
def JustifyLocksSaid : Prop := justifyLocksRow.holds Try.pinned (OpenSpec.ofChange justifyLocksSpec)

/-- ITS FALSE NEIGHBOUR: 'it returns false'. Refute it at one input. -/
def justifyLocksWrong : ChangeSpec := { name := "justifyLocks", fn := fun _ => fun
  | [d1, d2, d3, d4, d5] => { results := [.lit (.bool false)], args := [d1, d2, d3, d4, d5] }
  | _ => none }
def JustifyLocksWrongFalsely : Prop := justifyLocksRow.holds Try.pinned (OpenSpec.ofChange justifyLocksWrong)

/- THE SECOND FORM. 'bulk': how many values and letters a reading holds, each counted each time it is reached (what is shared counts as often as it is met; a slice's spare places count too). A statement '..UptoSaid' is the law's where the arguments, and the package variables that the reading takes, are together of bulk at most 1048576: NARROWER than '..Said'. Prove '..Said' where nothing that the law and all that it calls make is longer than what came in: it says more and counts as full. Else prove '..UptoSaid'. A law counts once. -/
mutual
def uptoBulk {H : Type} : DataW H → Nat
  | .lit (.string bytes) => bytes.length + 1
  | .lit _ => 1
  | .nil => 1
  | .ptr d => uptoBulk d + 1
  | .slice elems spare => uptoBulkAll elems + uptoBulkAll spare + 1
  | .agg parts => uptoBulkAll parts + 1
  | .iface _ d => uptoBulk d + 1
  | .map entries => uptoBulkEntries entries + 1
  | .held _ => 1
def uptoBulkAll {H : Type} : List (DataW H) → Nat
  | [] => 0
  | d :: r => uptoBulk d + uptoBulkAll r
def uptoBulkEntries {H : Type} : List (Lit × DataW H) → Nat
  | [] => 0
  | x :: r => uptoBulkEntry x + uptoBulkEntries r
def uptoBulkEntry {H : Type} : Lit × DataW H → Nat
  | (.string bytes, d) => bytes.length + uptoBulk d + 1
  | (_, d) => uptoBulk d + 1
 end
def uptoSmall : (H : Type) → List (DataW H) → Bool := fun _ ds => decide (uptoBulkAll ds ≤ 1048576)
def OpenSpec.upto (s : _root_.Go.ChangeSpec) : _root_.Go.OpenSpec := { _root_.Go.OpenSpec.ofChange s with cond := some uptoSmall }

/-- 'forkledgerlaw11.JustifyAllows', WHERE WHAT IT READS IS OF BULK AT MOST 1048576: true; the input reads as it did. -/
def justifyAllowsUptoRow : OpenClaim := { program := "ytngjhimhmpbofaa", sum := "c33b9fc3a2350418b4055874759324ad89923a62d943e25ea42738382ecad66c", func := "forkledger/forkledgerlaw11.JustifyAllows", spec := "justifyAllows", unfollowed := true, recurses := true, apart := false, narrowed := true }
def JustifyAllowsUptoSaid : Prop := justifyAllowsUptoRow.holds Try.pinned (OpenSpec.upto justifyAllowsSpec)

/-- 'forkledgerlaw11.JustifyEach', WHERE WHAT IT READS IS OF BULK AT MOST 1048576: true; the input reads as it did. -/
def justifyEachUptoRow : OpenClaim := { program := "ytngjhimhmpbofaa", sum := "c33b9fc3a2350418b4055874759324ad89923a62d943e25ea42738382ecad66c", func := "forkledger/forkledgerlaw11.JustifyEach", spec := "justifyEach", unfollowed := true, recurses := true, apart := false, narrowed := true }
def JustifyEachUptoSaid : Prop := justifyEachUptoRow.holds Try.pinned (OpenSpec.upto justifyEachSpec)

/-- 'forkledgerlaw11.JustifyGrows', WHERE WHAT IT READS IS OF BULK AT MOST 1048576: true; the input reads as it did. -/
def justifyGrowsUptoRow : OpenClaim := { program := "ytngjhimhmpbofaa", sum := "c33b9fc3a2350418b4055874759324ad89923a62d943e25ea42738382ecad66c", func := "forkledger/forkledgerlaw11.JustifyGrows", spec := "justifyGrows", unfollowed := true, recurses := true, apart := false, narrowed := true }
def JustifyGrowsUptoSaid : Prop := justifyGrowsUptoRow.holds Try.pinned (OpenSpec.upto justifyGrowsSpec)

/-- 'forkledgerlaw11.JustifyOutside', WHERE WHAT IT READS IS OF BULK AT MOST 1048576: true; the input reads as it did. -/
def justifyOutsideUptoRow : OpenClaim := { program := "ytngjhimhmpbofaa", sum := "c33b9fc3a2350418b4055874759324ad89923a62d943e25ea42738382ecad66c", func := "forkledger/forkledgerlaw11.JustifyOutside", spec := "justifyOutside", unfollowed := true, recurses := true, apart := false, narrowed := true }
def JustifyOutsideUptoSaid : Prop := justifyOutsideUptoRow.holds Try.pinned (OpenSpec.upto justifyOutsideSpec)

/-- 'forkledgerlaw11.JustifyBackers', WHERE WHAT IT READS IS OF BULK AT MOST 1048576: true; the input reads as it did. -/
def justifyBackersUptoRow : OpenClaim := { program := "ytngjhimhmpbofaa", sum := "c33b9fc3a2350418b4055874759324ad89923a62d943e25ea42738382ecad66c", func := "forkledger/forkledgerlaw11.JustifyBackers", spec := "justifyBackers", unfollowed := true, recurses := true, apart := false, narrowed := true }
def JustifyBackersUptoSaid : Prop := justifyBackersUptoRow.holds Try.pinned (OpenSpec.upto justifyBackersSpec)

/-- 'forkledgerlaw11.JustifyLocks', WHERE WHAT IT READS IS OF BULK AT MOST 1048576: true; the input reads as it did. -/
def justifyLocksUptoRow : OpenClaim := { program := "ytngjhimhmpbofaa", sum := "c33b9fc3a2350418b4055874759324ad89923a62d943e25ea42738382ecad66c", func := "forkledger/forkledgerlaw11.JustifyLocks", spec := "justifyLocks", unfollowed := true, recurses := true, apart := false, narrowed := true }
def JustifyLocksUptoSaid : Prop := justifyLocksUptoRow.holds Try.pinned (OpenSpec.upto justifyLocksSpec)

end Rows
end Go.Proofs.Ytngjhimhmpbofaa
