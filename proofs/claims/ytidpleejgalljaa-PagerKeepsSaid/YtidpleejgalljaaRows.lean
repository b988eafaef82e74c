/-
  No cell of these rows narrows 'for every input' (looked for: loops, veiled, ifaces, maps, wideKeys, modest, calm, conditions, laid).
  DERIVED. THE GIVEN ROWS OF THIS SEAT. 5 by the template 'for every input the law returns true; each argument reads behind the call as it read before'; 0 by the template 'total and deterministic' (their statements: YtidpleejgalljaaTotals.lean).
  GIVEN WITH THE SEED: the statements are not yours to turn. If you find one false, say at which input.
  Laid BY PROGRAM, IN A SANDBOX (cutbox-rows.mjs): the forced cells as the released guide's own fill.sh prints them over the translation 036a3b0b317c953c… (all of the seat's roots in one cut). By AI agents, Wed Nov 11 2026. No macro, syntax, notation, axiom, sorry.
-/
import Derived.Test.YtidpleejgalljaaChecked
import GoSem.Claim
import GoSem.ClaimJoined
import GoSem.ClaimMapViews
import Derived.JoinedTies
import Derived.KernelRfl
namespace Go.Proofs.Ytidpleejgalljaa
/- THE CELL 'sum', in the pinned program and in every row, IS THE sha256 OF THE DUMP (.gsa) THAT YtidpleejgalljaaProg.lean LOADS. Nothing in Lean hashes anything: it is a label: what it is worth is what the hold of that sum in a sandbox is worth. -/
noncomputable def Try.pinned : Pinned := { name := "ytidpleejgalljaa", sum := "036a3b0b317c953cbcfd7824438124b76488eef5599b8decc6c800509783c371", checked := Try.checked }
namespace Rows
def none {H : Type} : Left H := { results := [], args := [] }

/-- 'orangerylaw08.PagerTwice': WHATEVER THE INPUT: true; the input reads as it did. -/
def pagerTwiceSpec : ChangeSpec := { name := "pagerTwice", fn := fun _ => fun
  | [d1, d2, d3, d4, d5] => { results := [.lit (.bool true)], args := [d1, d2, d3, d4, d5] }
  | _ => none }
def pagerTwiceRow : OpenClaim := { program := "ytidpleejgalljaa", sum := "036a3b0b317c953cbcfd7824438124b76488eef5599b8decc6c800509783c371", func := "orangery/orangerylaw08.PagerTwice", spec := "pagerTwice", unfollowed := true, recurses := true, apart := false }
def PagerTwiceSaid : Prop := pagerTwiceRow.holds Try.pinned (OpenSpec.ofChange pagerTwiceSpec)

/-- ITS FALSE NEIGHBOUR: 'it returns false'. Refute it at one input. -/
def pagerTwiceWrong : ChangeSpec := { name := "pagerTwice", fn := fun _ => fun
  | [d1, d2, d3, d4, d5] => { results := [.lit (.bool false)], args := [d1, d2, d3, d4, d5] }
  | _ => none }
def PagerTwiceWrongFalsely : Prop := pagerTwiceRow.holds Try.pinned (OpenSpec.ofChange pagerTwiceWrong)

/-- 'orangerylaw08.PagerKeeps': WHATEVER THE INPUT: true; the input reads as it did. -/
def pagerKeepsSpec : ChangeSpec := { name := "pagerKeeps", fn := fun _ => fun
  | [d1, d2, d3] => { results := [.lit (.bool true)], args := [d1, d2, d3] }
  | _ => none }
def pagerKeepsRow : OpenClaim := { program := "ytidpleejgalljaa", sum := "036a3b0b317c953cbcfd7824438124b76488eef5599b8decc6c800509783c371", func := "orangery/orangerylaw08.PagerKeeps", spec := "pagerKeeps", unfollowed := true, recurses := true, apart := false }
def PagerKeepsSaid : Prop := pagerKeepsRow.holds Try.pinned (OpenSpec.ofChange pagerKeepsSpec)

/-- ITS FALSE NEIGHBOUR: 'it returns false'. Refute it at one input. -/
def pagerKeepsWrong : ChangeSpec := { name := "pagerKeeps", fn := fun _ => fun
  | [d1, d2, d3] => { results := [.lit (.bool false)], args := [d1, d2, d3] }
  | _ => none }
def PagerKeepsWrongFalsely : Prop := pagerKeepsRow.holds Try.pinned (OpenSpec.ofChange pagerKeepsWrong)

/-- 'orangerylaw08.PagerRolls': WHATEVER THE INPUT: true; the input reads as it did. -/
def pagerRollsSpec : ChangeSpec := { name := "pagerRolls", fn := fun _ => fun
  | [d1, d2] => { results := [.lit (.bool true)], args := [d1, d2] }
  | _ => none }
def pagerRollsRow : OpenClaim := { program := "ytidpleejgalljaa", sum := "036a3b0b317c953cbcfd7824438124b76488eef5599b8decc6c800509783c371", func := "orangery/orangerylaw08.PagerRolls", spec := "pagerRolls", unfollowed := true, recurses := true, apart := false }
def PagerRollsSaid : Prop := pagerRollsRow.holds Try.pinned (OpenSpec.ofChange pagerRollsSpec)

/-- ITS FALSE NEIGHBOUR: 'it returns false'. Refute it at one input. -/
def pagerRollsWrong : ChangeSpec := { name := "pagerRolls", fn := fun _ => fun
  | [d1, d2] => { results := [.lit (.bool false)], args := [d1, d2] }
  | _ => none }
def PagerRollsWrongFalsely : Prop := pagerRollsRow.holds Try.pinned (OpenSpec.ofChange pagerRollsWrong)

/-- 'orangerylaw08.PagerCheck': WHATEVER THE INPUT: true; the input reads as it did. -/
def pagerCheckSpec : ChangeSpec := { name := "pagerCheck", fn := fun _ => fun
  | [d1, d2, d3] => { results := [.lit (.bool true)], args := [d1, d2, d3] }
  | _ => none }
def pagerCheckRow : OpenClaim := { program := "ytidpleejgalljaa", sum := "036a3b0b317c953cbcfd7824438124b76488eef5599b8decc6c800509783c371", func := "orangery/orangerylaw08.PagerCheck", spec := "pagerCheck", unfollowed := true, recurses := true, apart := false }
def PagerCheckSaid : Prop := pagerCheckRow.holds Try.pinned (OpenSpec.ofChange pagerCheckSpec)

/-- ITS FALSE NEIGHBOUR: 'it returns false'. Refute it at one input. -/
def pagerCheckWrong : ChangeSpec := { name := "pagerCheck", fn := fun _ => fun
  | [d1, d2, d3] => { results := [.lit (.bool false)], args := [d1, d2, d3] }
  | _ => none }
def PagerCheckWrongFalsely : Prop := pagerCheckRow.holds Try.pinned (OpenSpec.ofChange pagerCheckWrong)

/-- 'orangerylaw08.PagerDirty': WHATEVER THE INPUT: true; the input reads as it did. -/
def pagerDirtySpec : ChangeSpec := { name := "pagerDirty", fn := fun _ => fun
  | [d1, d2, d3, d4] => { results := [.lit (.bool true)], args := [d1, d2, d3, d4] }
  | _ => none }
def pagerDirtyRow : OpenClaim := { program := "ytidpleejgalljaa", sum := "036a3b0b317c953cbcfd7824438124b76488eef5599b8decc6c800509783c371", func := "orangery/orangerylaw08.PagerDirty", spec := "pagerDirty", unfollowed := true, recurses := true, apart := false }
def PagerDirtySaid : Prop := pagerDirtyRow.holds Try.pinned (OpenSpec.ofChange pagerDirtySpec)

/-- ITS FALSE NEIGHBOUR: 'it returns false'. Refute it at one input. -/
def pagerDirtyWrong : ChangeSpec := { name := "pagerDirty", fn := fun _ => fun
  | [d1, d2, d3, d4] => { results := [.lit (.bool false)], args := [d1, d2, d3, d4] }
  | _ => none }
def PagerDirtyWrongFalsely : Prop := pagerDirtyRow.holds Try.pinned (OpenSpec.ofChange pagerDirtyWrong)

/- THE SECOND FORM. 'bulk': how many values and letters a reading holds, each counted each time it is reached (what is shared counts as often as it is met; a slice's spare places count too). A statement '..UptoSaid' is the law's where the arguments, and the package variables that the reading takes, are together of bulk at most 1048576: NARROWER than '..Said'. Prove '..Said' where nothing that the law and all that it calls make is longer than what came in: it says more and counts as full. Else prove '..UptoSaid'. A law counts once. -/
mutual
def uptoBulk {H : Type} : DataW H → Nat
  | .lit (.string bytes) => bytes.length + 1
  | .lit _ => 1
  | .nil => 1
  | .ptr d => uptoBulk d + 1
  | .slice elems spare => uptoBulkAll elems + uptoBulkAll spare + 1
  | .agg parts => uptoBulkAll parts + 1
  | .iface _ d => uptoBulk d + 1
  | .map entries => uptoBulkEntries entries + 1
  | .held _ => 1
def uptoBulkAll {H : Type} : List (DataW H) → Nat
  | [] => 0
  | d :: r => uptoBulk d + uptoBulkAll r
def uptoBulkEntries {H : Type} : List (Lit × DataW H) → Nat
  | [] => 0
  | x :: r => uptoBulkEntry x + uptoBulkEntries r
def uptoBulkEntry {H : Type} : Lit × DataW H → Nat
  | (.string bytes, d) => bytes.length + uptoBulk d + 1
  | (_, d) => uptoBulk d + 1
 end
def uptoSmall : (H : Type) → List (DataW H) → Bool := fun _ ds => decide (uptoBulkAll ds ≤ 1048576)
def OpenSpec.upto (s : _root_.Go.ChangeSpec) : _root_.Go.OpenSpec := { _root_.Go.OpenSpec.ofChange s with cond := some uptoSmall }

/-- 'orangerylaw08.PagerTwice', WHERE WHAT IT READS IS OF BULK AT MOST 1048576: true; the input reads as it did. -/
def pagerTwiceUptoRow : OpenClaim := { program := "ytidpleejgalljaa", sum := "036a3b0b317c953cbcfd7824438124b76488eef5599b8decc6c800509783c371", func := "orangery/orangerylaw08.PagerTwice", spec := "pagerTwice", unfollowed := true, recurses := true, apart := false, narrowed := true }
def PagerTwiceUptoSaid : Prop := pagerTwiceUptoRow.holds Try.pinned (OpenSpec.upto pagerTwiceSpec)

/-- 'orangerylaw08.PagerKeeps', WHERE WHAT IT READS IS OF BULK AT MOST 1048576: true; the input reads as it did. -/
def pagerKeepsUptoRow : OpenClaim := { program := "ytidpleejgalljaa", sum := "036a3b0b317c953cbcfd7824438124b76488eef5599b8decc6c800509783c371", func := "orangery/orangerylaw08.PagerKeeps", spec := "pagerKeeps", unfollowed := true, recurses := true, apart := false, narrowed := true }
def PagerKeepsUptoSaid : Prop := pagerKeepsUptoRow.holds Try.pinned (OpenSpec.upto pagerKeepsSpec)

/-- 'orangerylaw08.PagerRolls', WHERE WHAT IT READS IS OF BULK AT MOST 1048576: true; the input reads as it did. -/
def pagerRollsUptoRow : OpenClaim := { program := "ytidpleejgalljaa", sum := "036a3b0b317c953cbcfd7824438124b76488eef5599b8decc6c800509783c371", func := "orangery/orangerylaw08.PagerRolls", spec := "pagerRolls", unfollowed := true, recurses := true, apart := false, narrowed := true }
def PagerRollsUptoSaid : Prop := pagerRollsUptoRow.holds Try.pinned (OpenSpec.upto pagerRollsSpec)

/-- 'orangerylaw08.PagerCheck', WHERE WHAT IT READS IS OF BULK AT MOST 1048576: true; the input reads as it did. -/
def pagerCheckUptoRow : OpenClaim := { program := "ytidpleejgalljaa", sum := "036a3b0b317c953cbcfd7824438124b76488eef5599b8decc6c800509783c371", func := "orangery/orangerylaw08.PagerCheck", spec := "pagerCheck", unfollowed := true, recurses := true, apart := false, narrowed := true }
def PagerCheckUptoSaid : Prop := pagerCheckUptoRow.holds Try.pinned (OpenSpec.upto pagerCheckSpec)

/-- 'orangerylaw08.PagerDirty', WHERE WHAT IT READS IS OF BULK AT MOST 1048576: true; the input reads as it did. -/
def pagerDirtyUptoRow : OpenClaim := { program := "ytidpleejgalljaa", sum := "036a3b0b317c953cbcfd7824438124b76488eef5599b8decc6c800509783c371", func := "orangery/orangerylaw08.PagerDirty", spec := "pagerDirty", unfollowed := true, recurses := true, apart := false, narrowed := true }
def PagerDirtyUptoSaid : Prop := pagerDirtyUptoRow.holds Try.pinned (OpenSpec.upto pagerDirtySpec)

end Rows
end Go.Proofs.Ytidpleejgalljaa
