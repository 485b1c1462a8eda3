/-
  No cell of these rows narrows 'for every input' (looked for: loops, veiled, ifaces, maps, wideKeys, modest, calm, conditions, laid).
  DERIVED. THE GIVEN ROWS OF THIS SEAT. 8 by the template 'for every input the law returns true; each argument reads behind the call as it read before'; 0 by the template 'total and deterministic' (their statements: YtidgljajegoffaaTotals.lean).
  GIVEN WITH THE SEED: the statements are not yours to turn. If you find one false, say at which input.
  Laid BY PROGRAM, IN A SANDBOX (cutbox-rows.mjs): the forced cells as the released guide's own fill.sh prints them over the translation 1b2262b9c7fcb37d… (all of the seat's roots in one cut). By AI agents, Wed Nov 11 2026. No macro, syntax, notation, axiom, sorry.
-/
import Derived.Test.YtidgljajegoffaaChecked
import GoSem.Claim
import GoSem.ClaimJoined
import GoSem.ClaimMapViews
import Derived.JoinedTies
import Derived.KernelRfl
namespace Go.Proofs.Ytidgljajegoffaa
/- THE CELL 'sum', in the pinned program and in every row, IS THE sha256 OF THE DUMP (.gsa) THAT YtidgljajegoffaaProg.lean LOADS. Nothing in Lean hashes anything: it is a label: what it is worth is what the hold of that sum in a sandbox is worth. -/
noncomputable def Try.pinned : Pinned := { name := "ytidgljajegoffaa", sum := "1b2262b9c7fcb37d3bdb3bb20f00dfb4f2fa31981c452596e242417ca910f317", checked := Try.checked }
namespace Rows
def none {H : Type} : Left H := { results := [], args := [] }

/-- 'chalklinelaw19.PropTotalAssignment': WHATEVER THE INPUT: true; the input reads as it did. -/
def propTotalAssignmentSpec : ChangeSpec := { name := "propTotalAssignment", fn := fun _ => fun
  | [d1, d2] => { results := [.lit (.bool true)], args := [d1, d2] }
  | _ => none }
def propTotalAssignmentRow : OpenClaim := { program := "ytidgljajegoffaa", sum := "1b2262b9c7fcb37d3bdb3bb20f00dfb4f2fa31981c452596e242417ca910f317", func := "chalkline/chalklinelaw19.PropTotalAssignment", spec := "propTotalAssignment", unfollowed := true, recurses := true, apart := false }
def PropTotalAssignmentSaid : Prop := propTotalAssignmentRow.holds Try.pinned (OpenSpec.ofChange propTotalAssignmentSpec)

/-- ITS FALSE NEIGHBOUR: 'it returns false'. Refute it at one input. -/
def propTotalAssignmentWrong : ChangeSpec := { name := "propTotalAssignment", fn := fun _ => fun
  | [d1, d2] => { results := [.lit (.bool false)], args := [d1, d2] }
  | _ => none }
def PropTotalAssignmentWrongFalsely : Prop := propTotalAssignmentRow.holds Try.pinned (OpenSpec.ofChange propTotalAssignmentWrong)

/-- 'chalklinelaw19.PropTrailSpec': WHATEVER THE INPUT: true; the input reads as it did. -/
def propTrailSpecSpec : ChangeSpec := { name := "propTrailSpec", fn := fun _ => fun
  | [d1, d2, d3] => { results := [.lit (.bool true)], args := [d1, d2, d3] }
  | _ => none }
def propTrailSpecRow : OpenClaim := { program := "ytidgljajegoffaa", sum := "1b2262b9c7fcb37d3bdb3bb20f00dfb4f2fa31981c452596e242417ca910f317", func := "chalkline/chalklinelaw19.PropTrailSpec", spec := "propTrailSpec", unfollowed := true, recurses := true, apart := false }
def PropTrailSpecSaid : Prop := propTrailSpecRow.holds Try.pinned (OpenSpec.ofChange propTrailSpecSpec)

/-- ITS FALSE NEIGHBOUR: 'it returns false'. Refute it at one input. -/
def propTrailSpecWrong : ChangeSpec := { name := "propTrailSpec", fn := fun _ => fun
  | [d1, d2, d3] => { results := [.lit (.bool false)], args := [d1, d2, d3] }
  | _ => none }
def PropTrailSpecWrongFalsely : Prop := propTrailSpecRow.holds Try.pinned (OpenSpec.ofChange propTrailSpecWrong)

/-- 'chalklinelaw19.PropResultValid': WHATEVER THE INPUT: true; the input reads as it did. -/
def propResultValidSpec : ChangeSpec := { name := "propResultValid", fn := fun _ => fun
  | [d1, d2] => { results := [.lit (.bool true)], args := [d1, d2] }
  | _ => none }
def propResultValidRow : OpenClaim := { program := "ytidgljajegoffaa", sum := "1b2262b9c7fcb37d3bdb3bb20f00dfb4f2fa31981c452596e242417ca910f317", func := "chalkline/chalklinelaw19.PropResultValid", spec := "propResultValid", unfollowed := true, recurses := true, apart := false }
def PropResultValidSaid : Prop := propResultValidRow.holds Try.pinned (OpenSpec.ofChange propResultValidSpec)

/-- ITS FALSE NEIGHBOUR: 'it returns false'. Refute it at one input. -/
def propResultValidWrong : ChangeSpec := { name := "propResultValid", fn := fun _ => fun
  | [d1, d2] => { results := [.lit (.bool false)], args := [d1, d2] }
  | _ => none }
def PropResultValidWrongFalsely : Prop := propResultValidRow.holds Try.pinned (OpenSpec.ofChange propResultValidWrong)

/-- 'chalklinelaw19.PropConfluent': WHATEVER THE INPUT: true; the input reads as it did. -/
def propConfluentSpec : ChangeSpec := { name := "propConfluent", fn := fun _ => fun
  | [d1, d2, d3] => { results := [.lit (.bool true)], args := [d1, d2, d3] }
  | _ => none }
def propConfluentRow : OpenClaim := { program := "ytidgljajegoffaa", sum := "1b2262b9c7fcb37d3bdb3bb20f00dfb4f2fa31981c452596e242417ca910f317", func := "chalkline/chalklinelaw19.PropConfluent", spec := "propConfluent", unfollowed := true, recurses := true, apart := false }
def PropConfluentSaid : Prop := propConfluentRow.holds Try.pinned (OpenSpec.ofChange propConfluentSpec)

/-- ITS FALSE NEIGHBOUR: 'it returns false'. Refute it at one input. -/
def propConfluentWrong : ChangeSpec := { name := "propConfluent", fn := fun _ => fun
  | [d1, d2, d3] => { results := [.lit (.bool false)], args := [d1, d2, d3] }
  | _ => none }
def PropConfluentWrongFalsely : Prop := propConfluentRow.holds Try.pinned (OpenSpec.ofChange propConfluentWrong)

/-- 'chalklinelaw19.PropIdempotent': WHATEVER THE INPUT: true; the input reads as it did. -/
def propIdempotentSpec : ChangeSpec := { name := "propIdempotent", fn := fun _ => fun
  | [d1, d2] => { results := [.lit (.bool true)], args := [d1, d2] }
  | _ => none }
def propIdempotentRow : OpenClaim := { program := "ytidgljajegoffaa", sum := "1b2262b9c7fcb37d3bdb3bb20f00dfb4f2fa31981c452596e242417ca910f317", func := "chalkline/chalklinelaw19.PropIdempotent", spec := "propIdempotent", unfollowed := true, recurses := true, apart := false }
def PropIdempotentSaid : Prop := propIdempotentRow.holds Try.pinned (OpenSpec.ofChange propIdempotentSpec)

/-- ITS FALSE NEIGHBOUR: 'it returns false'. Refute it at one input. -/
def propIdempotentWrong : ChangeSpec := { name := "propIdempotent", fn := fun _ => fun
  | [d1, d2] => { results := [.lit (.bool false)], args := [d1, d2] }
  | _ => none }
def PropIdempotentWrongFalsely : Prop := propIdempotentRow.holds Try.pinned (OpenSpec.ofChange propIdempotentWrong)

/-- 'chalklinelaw19.PropBackPrefix': WHATEVER THE INPUT: true; the input reads as it did. -/
def propBackPrefixSpec : ChangeSpec := { name := "propBackPrefix", fn := fun _ => fun
  | [d1, d2, d3] => { results := [.lit (.bool true)], args := [d1, d2, d3] }
  | _ => none }
def propBackPrefixRow : OpenClaim := { program := "ytidgljajegoffaa", sum := "1b2262b9c7fcb37d3bdb3bb20f00dfb4f2fa31981c452596e242417ca910f317", func := "chalkline/chalklinelaw19.PropBackPrefix", spec := "propBackPrefix", unfollowed := true, recurses := true, apart := false }
def PropBackPrefixSaid : Prop := propBackPrefixRow.holds Try.pinned (OpenSpec.ofChange propBackPrefixSpec)

/-- ITS FALSE NEIGHBOUR: 'it returns false'. Refute it at one input. -/
def propBackPrefixWrong : ChangeSpec := { name := "propBackPrefix", fn := fun _ => fun
  | [d1, d2, d3] => { results := [.lit (.bool false)], args := [d1, d2, d3] }
  | _ => none }
def PropBackPrefixWrongFalsely : Prop := propBackPrefixRow.holds Try.pinned (OpenSpec.ofChange propBackPrefixWrong)

/-- 'chalklinelaw19.PropMonotone': WHATEVER THE INPUT: true; the input reads as it did. -/
def propMonotoneSpec : ChangeSpec := { name := "propMonotone", fn := fun _ => fun
  | [d1, d2, d3] => { results := [.lit (.bool true)], args := [d1, d2, d3] }
  | _ => none }
def propMonotoneRow : OpenClaim := { program := "ytidgljajegoffaa", sum := "1b2262b9c7fcb37d3bdb3bb20f00dfb4f2fa31981c452596e242417ca910f317", func := "chalkline/chalklinelaw19.PropMonotone", spec := "propMonotone", unfollowed := true, recurses := true, apart := false }
def PropMonotoneSaid : Prop := propMonotoneRow.holds Try.pinned (OpenSpec.ofChange propMonotoneSpec)

/-- ITS FALSE NEIGHBOUR: 'it returns false'. Refute it at one input. -/
def propMonotoneWrong : ChangeSpec := { name := "propMonotone", fn := fun _ => fun
  | [d1, d2, d3] => { results := [.lit (.bool false)], args := [d1, d2, d3] }
  | _ => none }
def PropMonotoneWrongFalsely : Prop := propMonotoneRow.holds Try.pinned (OpenSpec.ofChange propMonotoneWrong)

/-- 'chalklinelaw19.PropSound': WHATEVER THE INPUT: true; the input reads as it did. -/
def propSoundSpec : ChangeSpec := { name := "propSound", fn := fun _ => fun
  | [d1, d2] => { results := [.lit (.bool true)], args := [d1, d2] }
  | _ => none }
def propSoundRow : OpenClaim := { program := "ytidgljajegoffaa", sum := "1b2262b9c7fcb37d3bdb3bb20f00dfb4f2fa31981c452596e242417ca910f317", func := "chalkline/chalklinelaw19.PropSound", spec := "propSound", unfollowed := true, recurses := true, apart := false }
def PropSoundSaid : Prop := propSoundRow.holds Try.pinned (OpenSpec.ofChange propSoundSpec)

/-- ITS FALSE NEIGHBOUR: 'it returns false'. Refute it at one input. -/
def propSoundWrong : ChangeSpec := { name := "propSound", fn := fun _ => fun
  | [d1, d2] => { results := [.lit (.bool false)], args := [d1, d2] }
  | _ => none }
def PropSoundWrongFalsely : Prop := propSoundRow.holds Try.pinned (OpenSpec.ofChange propSoundWrong)

/- THE SECOND FORM. 'bulk': how many values and letters a reading holds, each counted each time it is reached (what is shared counts as often as it is met; a slice's spare places count too). A statement '..UptoSaid' is the law's where the arguments, and the package variables that the reading takes, are together of bulk at most 1048576: NARROWER than '..Said'. Prove '..Said' where nothing that the law and all that it calls make is longer than what came in: it says more and counts as full. Else prove '..UptoSaid'. A law counts once. -/
mutual
def uptoBulk {H : Type} : DataW H → Nat
  | .lit (.string bytes) => bytes.length + 1
  | .lit _ => 1
  | .nil => 1
  | .ptr d => uptoBulk d + 1
  | .slice elems spare => uptoBulkAll elems + uptoBulkAll spare + 1
  | .agg parts => uptoBulkAll parts + 1
  | .iface _ d => uptoBulk d + 1
  | .map entries => uptoBulkEntries entries + 1
  | .held _ => 1
def uptoBulkAll {H : Type} : List (DataW H) → Nat
  | [] => 0
  | d :: r => uptoBulk d + uptoBulkAll r
def uptoBulkEntries {H : Type} : List (Lit × DataW H) → Nat
  | [] => 0
  | x :: r => uptoBulkEntry x + uptoBulkEntries r
def uptoBulkEntry {H : Type} : Lit × DataW H → Nat
  | (.string bytes, d) => bytes.length + uptoBulk d + 1
  | (_, d) => uptoBulk d + 1
 end
def uptoSmall : (H : Type) → List (DataW H) → Bool := fun _ ds => decide (uptoBulkAll ds ≤ 1048576)
def OpenSpec.upto (s : _root_.Go.ChangeSpec) : _root_.Go.OpenSpec := { _root_.Go.OpenSpec.ofChange s with cond := some uptoSmall }

/-- 'chalklinelaw19.PropTotalAssignment', WHERE WHAT IT READS IS OF BULK AT MOST 1048576: true; the input reads as it did. -/
def propTotalAssignmentUptoRow : OpenClaim := { program := "ytidgljajegoffaa", sum := "1b2262b9c7fcb37d3bdb3bb20f00dfb4f2fa31981c452596e242417ca910f317", func := "chalkline/chalklinelaw19.PropTotalAssignment", spec := "propTotalAssignment", unfollowed := true, recurses := true, apart := false, narrowed := true }
def PropTotalAssignmentUptoSaid : Prop := propTotalAssignmentUptoRow.holds Try.pinned (OpenSpec.upto propTotalAssignmentSpec)

/-- 'chalklinelaw19.PropTrailSpec', WHERE WHAT IT READS IS OF BULK AT MOST 1048576: true; the input reads as it did. -/
def propTrailSpecUptoRow : OpenClaim := { program := "ytidgljajegoffaa", sum := "1b2262b9c7fcb37d3bdb3bb20f00dfb4f2fa31981c452596e242417ca910f317", func := "chalkline/chalklinelaw19.PropTrailSpec", spec := "propTrailSpec", unfollowed := true, recurses := true, apart := false, narrowed := true }
def PropTrailSpecUptoSaid : Prop := propTrailSpecUptoRow.holds Try.pinned (OpenSpec.upto propTrailSpecSpec)

/-- 'chalklinelaw19.PropResultValid', WHERE WHAT IT READS IS OF BULK AT MOST 1048576: true; the input reads as it did. -/
def propResultValidUptoRow : OpenClaim := { program := "ytidgljajegoffaa", sum := "1b2262b9c7fcb37d3bdb3bb20f00dfb4f2fa31981c452596e242417ca910f317", func := "chalkline/chalklinelaw19.PropResultValid", spec := "propResultValid", unfollowed := true, recurses := true, apart := false, narrowed := true }
def PropResultValidUptoSaid : Prop := propResultValidUptoRow.holds Try.pinned (OpenSpec.upto propResultValidSpec)

/-- 'chalklinelaw19.PropConfluent', WHERE WHAT IT READS IS OF BULK AT MOST 1048576: true; the input reads as it did. -/
def propConfluentUptoRow : OpenClaim := { program := "ytidgljajegoffaa", sum := "1b2262b9c7fcb37d3bdb3bb20f00dfb4f2fa31981c452596e242417ca910f317", func := "chalkline/chalklinelaw19.PropConfluent", spec := "propConfluent", unfollowed := true, recurses := true, apart := false, narrowed := true }
def PropConfluentUptoSaid : Prop := propConfluentUptoRow.holds Try.pinned (OpenSpec.upto propConfluentSpec)

/-- 'chalklinelaw19.PropIdempotent', WHERE WHAT IT READS IS OF BULK AT MOST 1048576: true; the input reads as it did. -/
def propIdempotentUptoRow : OpenClaim := { program := "ytidgljajegoffaa", sum := "1b2262b9c7fcb37d3bdb3bb20f00dfb4f2fa31981c452596e242417ca910f317", func := "chalkline/chalklinelaw19.PropIdempotent", spec := "propIdempotent", unfollowed := true, recurses := true, apart := false, narrowed := true }
def PropIdempotentUptoSaid : Prop := propIdempotentUptoRow.holds Try.pinned (OpenSpec.upto propIdempotentSpec)

/-- 'chalklinelaw19.PropBackPrefix', WHERE WHAT IT READS IS OF BULK AT MOST 1048576: true; the input reads as it did. -/
def propBackPrefixUptoRow : OpenClaim := { program := "ytidgljajegoffaa", sum := "1b2262b9c7fcb37d3bdb3bb20f00dfb4f2fa31981c452596e242417ca910f317", func := "chalkline/chalklinelaw19.PropBackPrefix", spec := "propBackPrefix", unfollowed := true, recurses := true, apart := false, narrowed := true }
def PropBackPrefixUptoSaid : Prop := propBackPrefixUptoRow.holds Try.pinned (OpenSpec.upto propBackPrefixSpec)

/-- 'chalklinelaw19.PropMonotone', WHERE WHAT IT READS IS OF BULK AT MOST 1048576: true; the input reads as it did. -/
def propMonotoneUptoRow : OpenClaim := { program := "ytidgljajegoffaa", sum := "1b2262b9c7fcb37d3bdb3bb20f00dfb4f2fa31981c452596e242417ca910f317", func := "chalkline/chalklinelaw19.PropMonotone", spec := "propMonotone", unfollowed := true, recurses := true, apart := false, narrowed := true }
def PropMonotoneUptoSaid : Prop := propMonotoneUptoRow.holds Try.pinned (OpenSpec.upto propMonotoneSpec)

/-- 'chalklinelaw19.PropSound', WHERE WHAT IT READS IS OF BULK AT MOST 1048576: true; the input reads as it did. -/
def propSoundUptoRow : OpenClaim := { program := "ytidgljajegoffaa", sum := "1b2262b9c7fcb37d3bdb3bb20f00dfb4f2fa31981c452596e242417ca910f317", func := "chalkline/chalklinelaw19.PropSound", spec := "propSound", unfollowed := true, recurses := true, apart := false, narrowed := true }
def PropSoundUptoSaid : Prop := propSoundUptoRow.holds Try.pinned (OpenSpec.upto propSoundSpec)

end Rows
end Go.Proofs.Ytidgljajegoffaa
