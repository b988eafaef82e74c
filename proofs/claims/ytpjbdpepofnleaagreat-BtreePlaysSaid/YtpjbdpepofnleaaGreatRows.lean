/-
  No cell of these rows narrows 'for every input' (looked for: loops, veiled, ifaces, maps, wideKeys, modest, calm, conditions, laid).
  DERIVED. THE GIVEN ROWS OF THIS SEAT. 5 by the template 'for every input the law returns true; each argument reads behind the call as it read before'; 0 by the template 'total and deterministic' (their statements: YtpjbdpepofnleaaGreatTotals.lean).
  GIVEN WITH THE SEED: the statements are not yours to turn. If you find one false, say at which input.
  Laid BY PROGRAM, IN A SANDBOX (cutbox-rows.mjs): the forced cells as the released guide's own fill.sh prints them over the translation b7200ec7b63ed7ab… (all of the seat's roots in one cut). By AI agents, Wed Nov 11 2026. No macro, syntax, notation, axiom, sorry.
-/
import Derived.Test.YtpjbdpepofnleaaGreatChecked
import GoSem.Claim
import GoSem.ClaimJoined
import GoSem.ClaimMapViews
import Derived.JoinedTies
import Derived.KernelRfl
namespace Go.Proofs.YtpjbdpepofnleaaGreat
/- THE CELL 'sum', in the pinned program and in every row, IS THE sha256 OF THE DUMP (.gsa) THAT YtpjbdpepofnleaaGreatProg.lean LOADS. Nothing in Lean hashes anything: it is a label: what it is worth is what the hold of that sum in a sandbox is worth. -/
noncomputable def Tryz.pinned : Pinned := { name := "ytpjbdpepofnleaagreat", sum := "b7200ec7b63ed7ab001f0616f0de422c21017f90adaedc4d81a522aa128414ba", checked := Tryz.checked }
namespace Rows
def none {H : Type} : Left H := { results := [], args := [] }

/-- 'orangerylaw10.BtreeRanges': WHATEVER THE INPUT: true; the input reads as it did. -/
def btreeRangesSpec : ChangeSpec := { name := "btreeRanges", fn := fun _ => fun
  | [d1, d2, d3, d4, d5] => { results := [.lit (.bool true)], args := [d1, d2, d3, d4, d5] }
  | _ => none }
def btreeRangesRow : OpenClaim := { program := "ytpjbdpepofnleaagreat", sum := "b7200ec7b63ed7ab001f0616f0de422c21017f90adaedc4d81a522aa128414ba", func := "orangery/orangerylaw10.BtreeRanges", spec := "btreeRanges", inPlace := ["internal/bytealg.Compare", "slices.overlaps[orangery/btree.item]"], unfollowed := true, recurses := true, apart := false }
def BtreeRangesSaid : Prop := btreeRangesRow.holds Tryz.pinned (OpenSpec.ofChange btreeRangesSpec)

/-- ITS FALSE NEIGHBOUR: 'it returns false'. Refute it at one input. -/
def btreeRangesWrong : ChangeSpec := { name := "btreeRanges", fn := fun _ => fun
  | [d1, d2, d3, d4, d5] => { results := [.lit (.bool false)], args := [d1, d2, d3, d4, d5] }
  | _ => none }
def BtreeRangesWrongFalsely : Prop := btreeRangesRow.holds Tryz.pinned (OpenSpec.ofChange btreeRangesWrong)

/-- 'orangerylaw10.BtreeLasts': WHATEVER THE INPUT: true; the input reads as it did. -/
def btreeLastsSpec : ChangeSpec := { name := "btreeLasts", fn := fun _ => fun
  | [d] => { results := [.lit (.bool true)], args := [d] }
  | _ => none }
def btreeLastsRow : OpenClaim := { program := "ytpjbdpepofnleaagreat", sum := "b7200ec7b63ed7ab001f0616f0de422c21017f90adaedc4d81a522aa128414ba", func := "orangery/orangerylaw10.BtreeLasts", spec := "btreeLasts", inPlace := ["internal/bytealg.Compare", "slices.overlaps[orangery/btree.item]"], unfollowed := true, recurses := true, apart := false }
def BtreeLastsSaid : Prop := btreeLastsRow.holds Tryz.pinned (OpenSpec.ofChange btreeLastsSpec)

/-- ITS FALSE NEIGHBOUR: 'it returns false'. Refute it at one input. -/
def btreeLastsWrong : ChangeSpec := { name := "btreeLasts", fn := fun _ => fun
  | [d] => { results := [.lit (.bool false)], args := [d] }
  | _ => none }
def BtreeLastsWrongFalsely : Prop := btreeLastsRow.holds Tryz.pinned (OpenSpec.ofChange btreeLastsWrong)

/-- 'orangerylaw10.BtreeApart': WHATEVER THE INPUT: true; the input reads as it did. -/
def btreeApartSpec : ChangeSpec := { name := "btreeApart", fn := fun _ => fun
  | [d1, d2, d3] => { results := [.lit (.bool true)], args := [d1, d2, d3] }
  | _ => none }
def btreeApartRow : OpenClaim := { program := "ytpjbdpepofnleaagreat", sum := "b7200ec7b63ed7ab001f0616f0de422c21017f90adaedc4d81a522aa128414ba", func := "orangery/orangerylaw10.BtreeApart", spec := "btreeApart", inPlace := ["internal/bytealg.Compare", "slices.overlaps[orangery/btree.item]"], unfollowed := true, recurses := true, apart := false }
def BtreeApartSaid : Prop := btreeApartRow.holds Tryz.pinned (OpenSpec.ofChange btreeApartSpec)

/-- ITS FALSE NEIGHBOUR: 'it returns false'. Refute it at one input. -/
def btreeApartWrong : ChangeSpec := { name := "btreeApart", fn := fun _ => fun
  | [d1, d2, d3] => { results := [.lit (.bool false)], args := [d1, d2, d3] }
  | _ => none }
def BtreeApartWrongFalsely : Prop := btreeApartRow.holds Tryz.pinned (OpenSpec.ofChange btreeApartWrong)

/-- 'orangerylaw10.BtreeGrows': WHATEVER THE INPUT: true; the input reads as it did. -/
def btreeGrowsSpec : ChangeSpec := { name := "btreeGrows", fn := fun _ => fun
  | [d1, d2, d3, d4] => { results := [.lit (.bool true)], args := [d1, d2, d3, d4] }
  | _ => none }
def btreeGrowsRow : OpenClaim := { program := "ytpjbdpepofnleaagreat", sum := "b7200ec7b63ed7ab001f0616f0de422c21017f90adaedc4d81a522aa128414ba", func := "orangery/orangerylaw10.BtreeGrows", spec := "btreeGrows", inPlace := ["internal/bytealg.Compare", "slices.overlaps[orangery/btree.item]"], unfollowed := true, recurses := true, apart := false }
def BtreeGrowsSaid : Prop := btreeGrowsRow.holds Tryz.pinned (OpenSpec.ofChange btreeGrowsSpec)

/-- ITS FALSE NEIGHBOUR: 'it returns false'. Refute it at one input. -/
def btreeGrowsWrong : ChangeSpec := { name := "btreeGrows", fn := fun _ => fun
  | [d1, d2, d3, d4] => { results := [.lit (.bool false)], args := [d1, d2, d3, d4] }
  | _ => none }
def BtreeGrowsWrongFalsely : Prop := btreeGrowsRow.holds Tryz.pinned (OpenSpec.ofChange btreeGrowsWrong)

/-- 'orangerylaw10.BtreePlays': WHATEVER THE INPUT: true; the input reads as it did. -/
def btreePlaysSpec : ChangeSpec := { name := "btreePlays", fn := fun _ => fun
  | [d1, d2] => { results := [.lit (.bool true)], args := [d1, d2] }
  | _ => none }
def btreePlaysRow : OpenClaim := { program := "ytpjbdpepofnleaagreat", sum := "b7200ec7b63ed7ab001f0616f0de422c21017f90adaedc4d81a522aa128414ba", func := "orangery/orangerylaw10.BtreePlays", spec := "btreePlays", inPlace := ["internal/bytealg.Compare", "slices.overlaps[orangery/btree.item]"], unfollowed := true, recurses := true, apart := false }
def BtreePlaysSaid : Prop := btreePlaysRow.holds Tryz.pinned (OpenSpec.ofChange btreePlaysSpec)

/-- ITS FALSE NEIGHBOUR: 'it returns false'. Refute it at one input. -/
def btreePlaysWrong : ChangeSpec := { name := "btreePlays", fn := fun _ => fun
  | [d1, d2] => { results := [.lit (.bool false)], args := [d1, d2] }
  | _ => none }
def BtreePlaysWrongFalsely : Prop := btreePlaysRow.holds Tryz.pinned (OpenSpec.ofChange btreePlaysWrong)

/- THE SECOND FORM. 'bulk': how many values and letters a reading holds, each counted each time it is reached (what is shared counts as often as it is met; a slice's spare places count too). A statement '..UptoSaid' is the law's where the arguments, and the package variables that the reading takes, are together of bulk at most 1048576: NARROWER than '..Said'. Prove '..Said' where nothing that the law and all that it calls make is longer than what came in: it says more and counts as full. Else prove '..UptoSaid'. A law counts once. -/
mutual
def uptoBulk {H : Type} : DataW H → Nat
  | .lit (.string bytes) => bytes.length + 1
  | .lit _ => 1
  | .nil => 1
  | .ptr d => uptoBulk d + 1
  | .slice elems spare => uptoBulkAll elems + uptoBulkAll spare + 1
  | .agg parts => uptoBulkAll parts + 1
  | .iface _ d => uptoBulk d + 1
  | .map entries => uptoBulkEntries entries + 1
  | .held _ => 1
def uptoBulkAll {H : Type} : List (DataW H) → Nat
  | [] => 0
  | d :: r => uptoBulk d + uptoBulkAll r
def uptoBulkEntries {H : Type} : List (Lit × DataW H) → Nat
  | [] => 0
  | x :: r => uptoBulkEntry x + uptoBulkEntries r
def uptoBulkEntry {H : Type} : Lit × DataW H → Nat
  | (.string bytes, d) => bytes.length + uptoBulk d + 1
  | (_, d) => uptoBulk d + 1
 end
def uptoSmall : (H : Type) → List (DataW H) → Bool := fun _ ds => decide (uptoBulkAll ds ≤ 1048576)
def OpenSpec.upto (s : _root_.Go.ChangeSpec) : _root_.Go.OpenSpec := { _root_.Go.OpenSpec.ofChange s with cond := some uptoSmall }

/-- 'orangerylaw10.BtreeRanges', WHERE WHAT IT READS IS OF BULK AT MOST 1048576: true; the input reads as it did. -/
def btreeRangesUptoRow : OpenClaim := { program := "ytpjbdpepofnleaagreat", sum := "b7200ec7b63ed7ab001f0616f0de422c21017f90adaedc4d81a522aa128414ba", func := "orangery/orangerylaw10.BtreeRanges", spec := "btreeRanges", inPlace := ["internal/bytealg.Compare", "slices.overlaps[orangery/btree.item]"], unfollowed := true, recurses := true, apart := false, narrowed := true }
def BtreeRangesUptoSaid : Prop := btreeRangesUptoRow.holds Tryz.pinned (OpenSpec.upto btreeRangesSpec)

/-- 'orangerylaw10.BtreeLasts', WHERE WHAT IT READS IS OF BULK AT MOST 1048576: true; the input reads as it did. -/
def btreeLastsUptoRow : OpenClaim := { program := "ytpjbdpepofnleaagreat", sum := "b7200ec7b63ed7ab001f0616f0de422c21017f90adaedc4d81a522aa128414ba", func := "orangery/orangerylaw10.BtreeLasts", spec := "btreeLasts", inPlace := ["internal/bytealg.Compare", "slices.overlaps[orangery/btree.item]"], unfollowed := true, recurses := true, apart := false, narrowed := true }
def BtreeLastsUptoSaid : Prop := btreeLastsUptoRow.holds Tryz.pinned (OpenSpec.upto btreeLastsSpec)

/-- 'orangerylaw10.BtreeApart', WHERE WHAT IT READS IS OF BULK AT MOST 1048576: true; the input reads as it did. -/
def btreeApartUptoRow : OpenClaim := { program := "ytpjbdpepofnleaagreat", sum := "b7200ec7b63ed7ab001f0616f0de422c21017f90adaedc4d81a522aa128414ba", func := "orangery/orangerylaw10.BtreeApart", spec := "btreeApart", inPlace := ["internal/bytealg.Compare", "slices.overlaps[orangery/btree.item]"], unfollowed := true, recurses := true, apart := false, narrowed := true }
def BtreeApartUptoSaid : Prop := btreeApartUptoRow.holds Tryz.pinned (OpenSpec.upto btreeApartSpec)

/-- 'orangerylaw10.BtreeGrows', WHERE WHAT IT READS IS OF BULK AT MOST 1048576: true; the input reads as it did. -/
def btreeGrowsUptoRow : OpenClaim := { program := "ytpjbdpepofnleaagreat", sum := "b7200ec7b63ed7ab001f0616f0de422c21017f90adaedc4d81a522aa128414ba", func := "orangery/orangerylaw10.BtreeGrows", spec := "btreeGrows", inPlace := ["internal/bytealg.Compare", "slices.overlaps[orangery/btree.item]"], unfollowed := true, recurses := true, apart := false, narrowed := true }
def BtreeGrowsUptoSaid : Prop := btreeGrowsUptoRow.holds Tryz.pinned (OpenSpec.upto btreeGrowsSpec)

/-- 'orangerylaw10.BtreePlays', WHERE WHAT IT READS IS OF BULK AT MOST 1048576: true; the input reads as it did. -/
def btreePlaysUptoRow : OpenClaim := { program := "ytpjbdpepofnleaagreat", sum := "b7200ec7b63ed7ab001f0616f0de422c21017f90adaedc4d81a522aa128414ba", func := "orangery/orangerylaw10.BtreePlays", spec := "btreePlays", inPlace := ["internal/bytealg.Compare", "slices.overlaps[orangery/btree.item]"], unfollowed := true, recurses := true, apart := false, narrowed := true }
def BtreePlaysUptoSaid : Prop := btreePlaysUptoRow.holds Tryz.pinned (OpenSpec.upto btreePlaysSpec)

end Rows
end Go.Proofs.YtpjbdpepofnleaaGreat
