/-
  NARROWER THAN 'FOR EVERY INPUT', by the rows' own cells (each row's printed sentence says how): PrepareExact: loops · CommitExact: loops · EnvelopesExact: loops.
  DERIVED. THE GIVEN ROWS OF THIS SEAT. 14 by the template 'for every input the law returns true; each argument reads behind the call as it read before'; 0 by the template 'total and deterministic' (their statements: YtmnjnpgmenigiaaGreatTotals.lean).
  GIVEN WITH THE SEED: the statements are not yours to turn. If you find one false, say at which input.
  Laid BY PROGRAM, IN A SANDBOX (cutbox-rows.mjs): the forced cells as the released guide's own fill.sh prints them over the translation f07364ed04c48f23… (all of the seat's roots in one cut). By AI agents, Wed Nov 11 2026. No macro, syntax, notation, axiom, sorry.
-/
import Derived.Test.YtmnjnpgmenigiaaGreatChecked
import GoSem.Claim
import GoSem.ClaimJoined
import GoSem.ClaimMapViews
import Derived.JoinedTies
import Derived.KernelRfl
namespace Go.Proofs.YtmnjnpgmenigiaaGreat
/- THE CELL 'sum', in the pinned program and in every row, IS THE sha256 OF THE DUMP (.gsa) THAT YtmnjnpgmenigiaaGreatProg.lean LOADS. Nothing in Lean hashes anything: it is a label: what it is worth is what the hold of that sum in a sandbox is worth. -/
noncomputable def Tryz.pinned : Pinned := { name := "ytmnjnpgmenigiaagreat", sum := "f07364ed04c48f2321c4972f78513ee84d77b9e89f694c73c7e33b0c3ab177d7", checked := Tryz.checked }
namespace Rows
def none {H : Type} : Left H := { results := [], args := [] }

/-- 'trustquorumlaw24.EnvelopesLists': WHATEVER THE INPUT: true; the input reads as it did. -/
def envelopesListsSpec : ChangeSpec := { name := "envelopesLists", fn := fun _ => fun
  | [d] => { results := [.lit (.bool true)], args := [d] }
  | _ => none }
def envelopesListsRow : OpenClaim := { program := "ytmnjnpgmenigiaagreat", sum := "f07364ed04c48f2321c4972f78513ee84d77b9e89f694c73c7e33b0c3ab177d7", func := "trustquorum/trustquorumlaw24.EnvelopesLists", spec := "envelopesLists", unfollowed := true, recurses := true, apart := false }
def EnvelopesListsSaid : Prop := envelopesListsRow.holds Tryz.pinned (OpenSpec.ofChange envelopesListsSpec)

/-- ITS FALSE NEIGHBOUR: 'it returns false'. Refute it at one input. -/
def envelopesListsWrong : ChangeSpec := { name := "envelopesLists", fn := fun _ => fun
  | [d] => { results := [.lit (.bool false)], args := [d] }
  | _ => none }
def EnvelopesListsWrongFalsely : Prop := envelopesListsRow.holds Tryz.pinned (OpenSpec.ofChange envelopesListsWrong)

/-- 'trustquorumlaw26.CommitParts': WHATEVER THE INPUT: true; the input reads as it did. -/
def commitPartsSpec : ChangeSpec := { name := "commitParts", fn := fun _ => fun
  | [d] => { results := [.lit (.bool true)], args := [d] }
  | _ => none }
def commitPartsRow : OpenClaim := { program := "ytmnjnpgmenigiaagreat", sum := "f07364ed04c48f2321c4972f78513ee84d77b9e89f694c73c7e33b0c3ab177d7", func := "trustquorum/trustquorumlaw26.CommitParts", spec := "commitParts", unfollowed := true, recurses := true, apart := false }
def CommitPartsSaid : Prop := commitPartsRow.holds Tryz.pinned (OpenSpec.ofChange commitPartsSpec)

/-- ITS FALSE NEIGHBOUR: 'it returns false'. Refute it at one input. -/
def commitPartsWrong : ChangeSpec := { name := "commitParts", fn := fun _ => fun
  | [d] => { results := [.lit (.bool false)], args := [d] }
  | _ => none }
def CommitPartsWrongFalsely : Prop := commitPartsRow.holds Tryz.pinned (OpenSpec.ofChange commitPartsWrong)

/-- 'trustquorumlaw26.CommitQuorum': WHATEVER THE INPUT: true; the input reads as it did. -/
def commitQuorumSpec : ChangeSpec := { name := "commitQuorum", fn := fun _ => fun
  | [d] => { results := [.lit (.bool true)], args := [d] }
  | _ => none }
def commitQuorumRow : OpenClaim := { program := "ytmnjnpgmenigiaagreat", sum := "f07364ed04c48f2321c4972f78513ee84d77b9e89f694c73c7e33b0c3ab177d7", func := "trustquorum/trustquorumlaw26.CommitQuorum", spec := "commitQuorum", unfollowed := true, recurses := true, apart := false }
def CommitQuorumSaid : Prop := commitQuorumRow.holds Tryz.pinned (OpenSpec.ofChange commitQuorumSpec)

/-- ITS FALSE NEIGHBOUR: 'it returns false'. Refute it at one input. -/
def commitQuorumWrong : ChangeSpec := { name := "commitQuorum", fn := fun _ => fun
  | [d] => { results := [.lit (.bool false)], args := [d] }
  | _ => none }
def CommitQuorumWrongFalsely : Prop := commitQuorumRow.holds Tryz.pinned (OpenSpec.ofChange commitQuorumWrong)

/-- 'trustquorumlaw25.PrepareGrows': WHATEVER THE INPUT: true; the input reads as it did. -/
def prepareGrowsSpec : ChangeSpec := { name := "prepareGrows", fn := fun _ => fun
  | [d] => { results := [.lit (.bool true)], args := [d] }
  | _ => none }
def prepareGrowsRow : OpenClaim := { program := "ytmnjnpgmenigiaagreat", sum := "f07364ed04c48f2321c4972f78513ee84d77b9e89f694c73c7e33b0c3ab177d7", func := "trustquorum/trustquorumlaw25.PrepareGrows", spec := "prepareGrows", unfollowed := true, recurses := true, apart := false }
def PrepareGrowsSaid : Prop := prepareGrowsRow.holds Tryz.pinned (OpenSpec.ofChange prepareGrowsSpec)

/-- ITS FALSE NEIGHBOUR: 'it returns false'. Refute it at one input. -/
def prepareGrowsWrong : ChangeSpec := { name := "prepareGrows", fn := fun _ => fun
  | [d] => { results := [.lit (.bool false)], args := [d] }
  | _ => none }
def PrepareGrowsWrongFalsely : Prop := prepareGrowsRow.holds Tryz.pinned (OpenSpec.ofChange prepareGrowsWrong)

/-- 'trustquorumlaw25.PrepareExact': WHATEVER THE INPUT: true; the input reads as it did. -/
def prepareExactSpec : ChangeSpec := { name := "prepareExact", fn := fun _ => fun
  | [d1, d2, d3, d4, d5, d6, d7, d8] => { results := [.lit (.bool true)], args := [d1, d2, d3, d4, d5, d6, d7, d8] }
  | _ => none }
def prepareExactRow : OpenClaim := { program := "ytmnjnpgmenigiaagreat", sum := "f07364ed04c48f2321c4972f78513ee84d77b9e89f694c73c7e33b0c3ab177d7", func := "trustquorum/trustquorumlaw25.PrepareExact", spec := "prepareExact", unfollowed := true, recurses := true, loops := true, apart := false }
def PrepareExactSaid : Prop := prepareExactRow.holds Tryz.pinned (OpenSpec.ofChange prepareExactSpec)

/-- ITS FALSE NEIGHBOUR: 'it returns false'. Refute it at one input. -/
def prepareExactWrong : ChangeSpec := { name := "prepareExact", fn := fun _ => fun
  | [d1, d2, d3, d4, d5, d6, d7, d8] => { results := [.lit (.bool false)], args := [d1, d2, d3, d4, d5, d6, d7, d8] }
  | _ => none }
def PrepareExactWrongFalsely : Prop := prepareExactRow.holds Tryz.pinned (OpenSpec.ofChange prepareExactWrong)

/-- 'trustquorumlaw26.CommitExact': WHATEVER THE INPUT: true; the input reads as it did. -/
def commitExactSpec : ChangeSpec := { name := "commitExact", fn := fun _ => fun
  | [d1, d2, d3, d4, d5, d6, d7, d8, d9] => { results := [.lit (.bool true)], args := [d1, d2, d3, d4, d5, d6, d7, d8, d9] }
  | _ => none }
def commitExactRow : OpenClaim := { program := "ytmnjnpgmenigiaagreat", sum := "f07364ed04c48f2321c4972f78513ee84d77b9e89f694c73c7e33b0c3ab177d7", func := "trustquorum/trustquorumlaw26.CommitExact", spec := "commitExact", unfollowed := true, recurses := true, loops := true, apart := false }
def CommitExactSaid : Prop := commitExactRow.holds Tryz.pinned (OpenSpec.ofChange commitExactSpec)

/-- ITS FALSE NEIGHBOUR: 'it returns false'. Refute it at one input. -/
def commitExactWrong : ChangeSpec := { name := "commitExact", fn := fun _ => fun
  | [d1, d2, d3, d4, d5, d6, d7, d8, d9] => { results := [.lit (.bool false)], args := [d1, d2, d3, d4, d5, d6, d7, d8, d9] }
  | _ => none }
def CommitExactWrongFalsely : Prop := commitExactRow.holds Tryz.pinned (OpenSpec.ofChange commitExactWrong)

/-- 'trustquorumlaw26.CommitRanges': WHATEVER THE INPUT: true; the input reads as it did. -/
def commitRangesSpec : ChangeSpec := { name := "commitRanges", fn := fun _ => fun
  | [d] => { results := [.lit (.bool true)], args := [d] }
  | _ => none }
def commitRangesRow : OpenClaim := { program := "ytmnjnpgmenigiaagreat", sum := "f07364ed04c48f2321c4972f78513ee84d77b9e89f694c73c7e33b0c3ab177d7", func := "trustquorum/trustquorumlaw26.CommitRanges", spec := "commitRanges", unfollowed := true, recurses := true, apart := false }
def CommitRangesSaid : Prop := commitRangesRow.holds Tryz.pinned (OpenSpec.ofChange commitRangesSpec)

/-- ITS FALSE NEIGHBOUR: 'it returns false'. Refute it at one input. -/
def commitRangesWrong : ChangeSpec := { name := "commitRanges", fn := fun _ => fun
  | [d] => { results := [.lit (.bool false)], args := [d] }
  | _ => none }
def CommitRangesWrongFalsely : Prop := commitRangesRow.holds Tryz.pinned (OpenSpec.ofChange commitRangesWrong)

/-- 'trustquorumlaw24.EnvelopesExact': WHATEVER THE INPUT: true; the input reads as it did. -/
def envelopesExactSpec : ChangeSpec := { name := "envelopesExact", fn := fun _ => fun
  | [d1, d2, d3, d4, d5, d6, d7, d8] => { results := [.lit (.bool true)], args := [d1, d2, d3, d4, d5, d6, d7, d8] }
  | _ => none }
def envelopesExactRow : OpenClaim := { program := "ytmnjnpgmenigiaagreat", sum := "f07364ed04c48f2321c4972f78513ee84d77b9e89f694c73c7e33b0c3ab177d7", func := "trustquorum/trustquorumlaw24.EnvelopesExact", spec := "envelopesExact", inPlace := ["slices.overlaps[trustquorum/api.Envelope]"], unfollowed := true, recurses := true, loops := true, apart := false }
def EnvelopesExactSaid : Prop := envelopesExactRow.holds Tryz.pinned (OpenSpec.ofChange envelopesExactSpec)

/-- ITS FALSE NEIGHBOUR: 'it returns false'. Refute it at one input. -/
def envelopesExactWrong : ChangeSpec := { name := "envelopesExact", fn := fun _ => fun
  | [d1, d2, d3, d4, d5, d6, d7, d8] => { results := [.lit (.bool false)], args := [d1, d2, d3, d4, d5, d6, d7, d8] }
  | _ => none }
def EnvelopesExactWrongFalsely : Prop := envelopesExactRow.holds Tryz.pinned (OpenSpec.ofChange envelopesExactWrong)

/-- 'trustquorumlaw27.MachineHonest': WHATEVER THE INPUT: true; the input reads as it did. -/
def machineHonestSpec : ChangeSpec := { name := "machineHonest", fn := fun _ => fun
  | [d] => { results := [.lit (.bool true)], args := [d] }
  | _ => none }
def machineHonestRow : OpenClaim := { program := "ytmnjnpgmenigiaagreat", sum := "f07364ed04c48f2321c4972f78513ee84d77b9e89f694c73c7e33b0c3ab177d7", func := "trustquorum/trustquorumlaw27.MachineHonest", spec := "machineHonest", inPlace := ["slices.overlaps[trustquorum/api.Envelope]"], unfollowed := true, recurses := true, apart := false }
def MachineHonestSaid : Prop := machineHonestRow.holds Tryz.pinned (OpenSpec.ofChange machineHonestSpec)

/-- ITS FALSE NEIGHBOUR: 'it returns false'. Refute it at one input. -/
def machineHonestWrong : ChangeSpec := { name := "machineHonest", fn := fun _ => fun
  | [d] => { results := [.lit (.bool false)], args := [d] }
  | _ => none }
def MachineHonestWrongFalsely : Prop := machineHonestRow.holds Tryz.pinned (OpenSpec.ofChange machineHonestWrong)

/-- 'trustquorumlaw27.MachineCatches': WHATEVER THE INPUT: true; the input reads as it did. -/
def machineCatchesSpec : ChangeSpec := { name := "machineCatches", fn := fun _ => fun
  | [d] => { results := [.lit (.bool true)], args := [d] }
  | _ => none }
def machineCatchesRow : OpenClaim := { program := "ytmnjnpgmenigiaagreat", sum := "f07364ed04c48f2321c4972f78513ee84d77b9e89f694c73c7e33b0c3ab177d7", func := "trustquorum/trustquorumlaw27.MachineCatches", spec := "machineCatches", inPlace := ["slices.overlaps[trustquorum/api.Envelope]"], unfollowed := true, recurses := true, apart := false }
def MachineCatchesSaid : Prop := machineCatchesRow.holds Tryz.pinned (OpenSpec.ofChange machineCatchesSpec)

/-- ITS FALSE NEIGHBOUR: 'it returns false'. Refute it at one input. -/
def machineCatchesWrong : ChangeSpec := { name := "machineCatches", fn := fun _ => fun
  | [d] => { results := [.lit (.bool false)], args := [d] }
  | _ => none }
def MachineCatchesWrongFalsely : Prop := machineCatchesRow.holds Tryz.pinned (OpenSpec.ofChange machineCatchesWrong)

/-- 'trustquorumlaw27.MachineOlder': WHATEVER THE INPUT: true; the input reads as it did. -/
def machineOlderSpec : ChangeSpec := { name := "machineOlder", fn := fun _ => fun
  | [d] => { results := [.lit (.bool true)], args := [d] }
  | _ => none }
def machineOlderRow : OpenClaim := { program := "ytmnjnpgmenigiaagreat", sum := "f07364ed04c48f2321c4972f78513ee84d77b9e89f694c73c7e33b0c3ab177d7", func := "trustquorum/trustquorumlaw27.MachineOlder", spec := "machineOlder", inPlace := ["slices.overlaps[trustquorum/api.Envelope]"], unfollowed := true, recurses := true, apart := false }
def MachineOlderSaid : Prop := machineOlderRow.holds Tryz.pinned (OpenSpec.ofChange machineOlderSpec)

/-- ITS FALSE NEIGHBOUR: 'it returns false'. Refute it at one input. -/
def machineOlderWrong : ChangeSpec := { name := "machineOlder", fn := fun _ => fun
  | [d] => { results := [.lit (.bool false)], args := [d] }
  | _ => none }
def MachineOlderWrongFalsely : Prop := machineOlderRow.holds Tryz.pinned (OpenSpec.ofChange machineOlderWrong)

/-- 'trustquorumlaw27.MachineKeeps': WHATEVER THE INPUT: true; the input reads as it did. -/
def machineKeepsSpec : ChangeSpec := { name := "machineKeeps", fn := fun _ => fun
  | [d] => { results := [.lit (.bool true)], args := [d] }
  | _ => none }
def machineKeepsRow : OpenClaim := { program := "ytmnjnpgmenigiaagreat", sum := "f07364ed04c48f2321c4972f78513ee84d77b9e89f694c73c7e33b0c3ab177d7", func := "trustquorum/trustquorumlaw27.MachineKeeps", spec := "machineKeeps", inPlace := ["slices.overlaps[trustquorum/api.Envelope]"], unfollowed := true, recurses := true, apart := false }
def MachineKeepsSaid : Prop := machineKeepsRow.holds Tryz.pinned (OpenSpec.ofChange machineKeepsSpec)

/-- ITS FALSE NEIGHBOUR: 'it returns false'. Refute it at one input. -/
def machineKeepsWrong : ChangeSpec := { name := "machineKeeps", fn := fun _ => fun
  | [d] => { results := [.lit (.bool false)], args := [d] }
  | _ => none }
def MachineKeepsWrongFalsely : Prop := machineKeepsRow.holds Tryz.pinned (OpenSpec.ofChange machineKeepsWrong)

/-- 'trustquorumlaw27.MachineAgree': WHATEVER THE INPUT: true; the input reads as it did. -/
def machineAgreeSpec : ChangeSpec := { name := "machineAgree", fn := fun _ => fun
  | [d] => { results := [.lit (.bool true)], args := [d] }
  | _ => none }
def machineAgreeRow : OpenClaim := { program := "ytmnjnpgmenigiaagreat", sum := "f07364ed04c48f2321c4972f78513ee84d77b9e89f694c73c7e33b0c3ab177d7", func := "trustquorum/trustquorumlaw27.MachineAgree", spec := "machineAgree", inPlace := ["slices.overlaps[trustquorum/api.Envelope]"], unfollowed := true, recurses := true, apart := false }
def MachineAgreeSaid : Prop := machineAgreeRow.holds Tryz.pinned (OpenSpec.ofChange machineAgreeSpec)

/-- ITS FALSE NEIGHBOUR: 'it returns false'. Refute it at one input. -/
def machineAgreeWrong : ChangeSpec := { name := "machineAgree", fn := fun _ => fun
  | [d] => { results := [.lit (.bool false)], args := [d] }
  | _ => none }
def MachineAgreeWrongFalsely : Prop := machineAgreeRow.holds Tryz.pinned (OpenSpec.ofChange machineAgreeWrong)

/-- 'trustquorumlaw27.MachineFollows': WHATEVER THE INPUT: true; the input reads as it did. -/
def machineFollowsSpec : ChangeSpec := { name := "machineFollows", fn := fun _ => fun
  | [d] => { results := [.lit (.bool true)], args := [d] }
  | _ => none }
def machineFollowsRow : OpenClaim := { program := "ytmnjnpgmenigiaagreat", sum := "f07364ed04c48f2321c4972f78513ee84d77b9e89f694c73c7e33b0c3ab177d7", func := "trustquorum/trustquorumlaw27.MachineFollows", spec := "machineFollows", inPlace := ["slices.overlaps[trustquorum/api.Envelope]"], unfollowed := true, recurses := true, apart := false }
def MachineFollowsSaid : Prop := machineFollowsRow.holds Tryz.pinned (OpenSpec.ofChange machineFollowsSpec)

/-- ITS FALSE NEIGHBOUR: 'it returns false'. Refute it at one input. -/
def machineFollowsWrong : ChangeSpec := { name := "machineFollows", fn := fun _ => fun
  | [d] => { results := [.lit (.bool false)], args := [d] }
  | _ => none }
def MachineFollowsWrongFalsely : Prop := machineFollowsRow.holds Tryz.pinned (OpenSpec.ofChange machineFollowsWrong)

/- THE SECOND FORM. 'bulk': how many values and letters a reading holds, each counted each time it is reached (what is shared counts as often as it is met; a slice's spare places count too). A statement '..UptoSaid' is the law's where the arguments, and the package variables that the reading takes, are together of bulk at most 1048576: NARROWER than '..Said'. Prove '..Said' where nothing that the law and all that it calls make is longer than what came in: it says more and counts as full. Else prove '..UptoSaid'. A law counts once. -/
mutual
def uptoBulk {H : Type} : DataW H → Nat
  | .lit (.string bytes) => bytes.length + 1
  | .lit _ => 1
  | .nil => 1
  | .ptr d => uptoBulk d + 1
  | .slice elems spare => uptoBulkAll elems + uptoBulkAll spare + 1
  | .agg parts => uptoBulkAll parts + 1
  | .iface _ d => uptoBulk d + 1
  | .map entries => uptoBulkEntries entries + 1
  | .held _ => 1
def uptoBulkAll {H : Type} : List (DataW H) → Nat
  | [] => 0
  | d :: r => uptoBulk d + uptoBulkAll r
def uptoBulkEntries {H : Type} : List (Lit × DataW H) → Nat
  | [] => 0
  | x :: r => uptoBulkEntry x + uptoBulkEntries r
def uptoBulkEntry {H : Type} : Lit × DataW H → Nat
  | (.string bytes, d) => bytes.length + uptoBulk d + 1
  | (_, d) => uptoBulk d + 1
 end
def uptoSmall : (H : Type) → List (DataW H) → Bool := fun _ ds => decide (uptoBulkAll ds ≤ 1048576)
def OpenSpec.upto (s : _root_.Go.ChangeSpec) : _root_.Go.OpenSpec := { _root_.Go.OpenSpec.ofChange s with cond := some uptoSmall }

/-- 'trustquorumlaw24.EnvelopesLists', WHERE WHAT IT READS IS OF BULK AT MOST 1048576: true; the input reads as it did. -/
def envelopesListsUptoRow : OpenClaim := { program := "ytmnjnpgmenigiaagreat", sum := "f07364ed04c48f2321c4972f78513ee84d77b9e89f694c73c7e33b0c3ab177d7", func := "trustquorum/trustquorumlaw24.EnvelopesLists", spec := "envelopesLists", unfollowed := true, recurses := true, apart := false, narrowed := true }
def EnvelopesListsUptoSaid : Prop := envelopesListsUptoRow.holds Tryz.pinned (OpenSpec.upto envelopesListsSpec)

/-- 'trustquorumlaw26.CommitParts', WHERE WHAT IT READS IS OF BULK AT MOST 1048576: true; the input reads as it did. -/
def commitPartsUptoRow : OpenClaim := { program := "ytmnjnpgmenigiaagreat", sum := "f07364ed04c48f2321c4972f78513ee84d77b9e89f694c73c7e33b0c3ab177d7", func := "trustquorum/trustquorumlaw26.CommitParts", spec := "commitParts", unfollowed := true, recurses := true, apart := false, narrowed := true }
def CommitPartsUptoSaid : Prop := commitPartsUptoRow.holds Tryz.pinned (OpenSpec.upto commitPartsSpec)

/-- 'trustquorumlaw26.CommitQuorum', WHERE WHAT IT READS IS OF BULK AT MOST 1048576: true; the input reads as it did. -/
def commitQuorumUptoRow : OpenClaim := { program := "ytmnjnpgmenigiaagreat", sum := "f07364ed04c48f2321c4972f78513ee84d77b9e89f694c73c7e33b0c3ab177d7", func := "trustquorum/trustquorumlaw26.CommitQuorum", spec := "commitQuorum", unfollowed := true, recurses := true, apart := false, narrowed := true }
def CommitQuorumUptoSaid : Prop := commitQuorumUptoRow.holds Tryz.pinned (OpenSpec.upto commitQuorumSpec)

/-- 'trustquorumlaw25.PrepareGrows', WHERE WHAT IT READS IS OF BULK AT MOST 1048576: true; the input reads as it did. -/
def prepareGrowsUptoRow : OpenClaim := { program := "ytmnjnpgmenigiaagreat", sum := "f07364ed04c48f2321c4972f78513ee84d77b9e89f694c73c7e33b0c3ab177d7", func := "trustquorum/trustquorumlaw25.PrepareGrows", spec := "prepareGrows", unfollowed := true, recurses := true, apart := false, narrowed := true }
def PrepareGrowsUptoSaid : Prop := prepareGrowsUptoRow.holds Tryz.pinned (OpenSpec.upto prepareGrowsSpec)

/-- 'trustquorumlaw25.PrepareExact', WHERE WHAT IT READS IS OF BULK AT MOST 1048576: true; the input reads as it did. -/
def prepareExactUptoRow : OpenClaim := { program := "ytmnjnpgmenigiaagreat", sum := "f07364ed04c48f2321c4972f78513ee84d77b9e89f694c73c7e33b0c3ab177d7", func := "trustquorum/trustquorumlaw25.PrepareExact", spec := "prepareExact", unfollowed := true, recurses := true, loops := true, apart := false, narrowed := true }
def PrepareExactUptoSaid : Prop := prepareExactUptoRow.holds Tryz.pinned (OpenSpec.upto prepareExactSpec)

/-- 'trustquorumlaw26.CommitExact', WHERE WHAT IT READS IS OF BULK AT MOST 1048576: true; the input reads as it did. -/
def commitExactUptoRow : OpenClaim := { program := "ytmnjnpgmenigiaagreat", sum := "f07364ed04c48f2321c4972f78513ee84d77b9e89f694c73c7e33b0c3ab177d7", func := "trustquorum/trustquorumlaw26.CommitExact", spec := "commitExact", unfollowed := true, recurses := true, loops := true, apart := false, narrowed := true }
def CommitExactUptoSaid : Prop := commitExactUptoRow.holds Tryz.pinned (OpenSpec.upto commitExactSpec)

/-- 'trustquorumlaw26.CommitRanges', WHERE WHAT IT READS IS OF BULK AT MOST 1048576: true; the input reads as it did. -/
def commitRangesUptoRow : OpenClaim := { program := "ytmnjnpgmenigiaagreat", sum := "f07364ed04c48f2321c4972f78513ee84d77b9e89f694c73c7e33b0c3ab177d7", func := "trustquorum/trustquorumlaw26.CommitRanges", spec := "commitRanges", unfollowed := true, recurses := true, apart := false, narrowed := true }
def CommitRangesUptoSaid : Prop := commitRangesUptoRow.holds Tryz.pinned (OpenSpec.upto commitRangesSpec)

/-- 'trustquorumlaw24.EnvelopesExact', WHERE WHAT IT READS IS OF BULK AT MOST 1048576: true; the input reads as it did. -/
def envelopesExactUptoRow : OpenClaim := { program := "ytmnjnpgmenigiaagreat", sum := "f07364ed04c48f2321c4972f78513ee84d77b9e89f694c73c7e33b0c3ab177d7", func := "trustquorum/trustquorumlaw24.EnvelopesExact", spec := "envelopesExact", inPlace := ["slices.overlaps[trustquorum/api.Envelope]"], unfollowed := true, recurses := true, loops := true, apart := false, narrowed := true }
def EnvelopesExactUptoSaid : Prop := envelopesExactUptoRow.holds Tryz.pinned (OpenSpec.upto envelopesExactSpec)

/-- 'trustquorumlaw27.MachineHonest', WHERE WHAT IT READS IS OF BULK AT MOST 1048576: true; the input reads as it did. -/
def machineHonestUptoRow : OpenClaim := { program := "ytmnjnpgmenigiaagreat", sum := "f07364ed04c48f2321c4972f78513ee84d77b9e89f694c73c7e33b0c3ab177d7", func := "trustquorum/trustquorumlaw27.MachineHonest", spec := "machineHonest", inPlace := ["slices.overlaps[trustquorum/api.Envelope]"], unfollowed := true, recurses := true, apart := false, narrowed := true }
def MachineHonestUptoSaid : Prop := machineHonestUptoRow.holds Tryz.pinned (OpenSpec.upto machineHonestSpec)

/-- 'trustquorumlaw27.MachineCatches', WHERE WHAT IT READS IS OF BULK AT MOST 1048576: true; the input reads as it did. -/
def machineCatchesUptoRow : OpenClaim := { program := "ytmnjnpgmenigiaagreat", sum := "f07364ed04c48f2321c4972f78513ee84d77b9e89f694c73c7e33b0c3ab177d7", func := "trustquorum/trustquorumlaw27.MachineCatches", spec := "machineCatches", inPlace := ["slices.overlaps[trustquorum/api.Envelope]"], unfollowed := true, recurses := true, apart := false, narrowed := true }
def MachineCatchesUptoSaid : Prop := machineCatchesUptoRow.holds Tryz.pinned (OpenSpec.upto machineCatchesSpec)

/-- 'trustquorumlaw27.MachineOlder', WHERE WHAT IT READS IS OF BULK AT MOST 1048576: true; the input reads as it did. -/
def machineOlderUptoRow : OpenClaim := { program := "ytmnjnpgmenigiaagreat", sum := "f07364ed04c48f2321c4972f78513ee84d77b9e89f694c73c7e33b0c3ab177d7", func := "trustquorum/trustquorumlaw27.MachineOlder", spec := "machineOlder", inPlace := ["slices.overlaps[trustquorum/api.Envelope]"], unfollowed := true, recurses := true, apart := false, narrowed := true }
def MachineOlderUptoSaid : Prop := machineOlderUptoRow.holds Tryz.pinned (OpenSpec.upto machineOlderSpec)

/-- 'trustquorumlaw27.MachineKeeps', WHERE WHAT IT READS IS OF BULK AT MOST 1048576: true; the input reads as it did. -/
def machineKeepsUptoRow : OpenClaim := { program := "ytmnjnpgmenigiaagreat", sum := "f07364ed04c48f2321c4972f78513ee84d77b9e89f694c73c7e33b0c3ab177d7", func := "trustquorum/trustquorumlaw27.MachineKeeps", spec := "machineKeeps", inPlace := ["slices.overlaps[trustquorum/api.Envelope]"], unfollowed := true, recurses := true, apart := false, narrowed := true }
def MachineKeepsUptoSaid : Prop := machineKeepsUptoRow.holds Tryz.pinned (OpenSpec.upto machineKeepsSpec)

/-- 'trustquorumlaw27.MachineAgree', WHERE WHAT IT READS IS OF BULK AT MOST 1048576: true; the input reads as it did. -/
def machineAgreeUptoRow : OpenClaim := { program := "ytmnjnpgmenigiaagreat", sum := "f07364ed04c48f2321c4972f78513ee84d77b9e89f694c73c7e33b0c3ab177d7", func := "trustquorum/trustquorumlaw27.MachineAgree", spec := "machineAgree", inPlace := ["slices.overlaps[trustquorum/api.Envelope]"], unfollowed := true, recurses := true, apart := false, narrowed := true }
def MachineAgreeUptoSaid : Prop := machineAgreeUptoRow.holds Tryz.pinned (OpenSpec.upto machineAgreeSpec)

/-- 'trustquorumlaw27.MachineFollows', WHERE WHAT IT READS IS OF BULK AT MOST 1048576: true; the input reads as it did. -/
def machineFollowsUptoRow : OpenClaim := { program := "ytmnjnpgmenigiaagreat", sum := "f07364ed04c48f2321c4972f78513ee84d77b9e89f694c73c7e33b0c3ab177d7", func := "trustquorum/trustquorumlaw27.MachineFollows", spec := "machineFollows", inPlace := ["slices.overlaps[trustquorum/api.Envelope]"], unfollowed := true, recurses := true, apart := false, narrowed := true }
def MachineFollowsUptoSaid : Prop := machineFollowsUptoRow.holds Tryz.pinned (OpenSpec.upto machineFollowsSpec)

end Rows
end Go.Proofs.YtmnjnpgmenigiaaGreat
