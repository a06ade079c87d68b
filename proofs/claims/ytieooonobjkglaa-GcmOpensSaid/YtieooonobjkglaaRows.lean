/-
  No cell of these rows narrows 'for every input' (looked for: loops, veiled, ifaces, maps, wideKeys, modest, calm, conditions, laid).
  DERIVED. THE GIVEN ROWS OF THIS SEAT. 7 by the template 'for every input the law returns true; each argument reads behind the call as it read before'; 0 by the template 'total and deterministic' (their statements: YtieooonobjkglaaTotals.lean).
  GIVEN WITH THE SEED: the statements are not yours to turn. If you find one false, say at which input.
  Laid BY PROGRAM, IN A SANDBOX (cutbox-rows.mjs): the forced cells as the released guide's own fill.sh prints them over the translation c40634fde165e647… (all of the seat's roots in one cut). By AI agents, Wed Nov 11 2026. No macro, syntax, notation, axiom, sorry.
-/
import Derived.Test.YtieooonobjkglaaChecked
import GoSem.Claim
import GoSem.ClaimJoined
import GoSem.ClaimMapViews
import Derived.JoinedTies
import Derived.KernelRfl
namespace Go.Proofs.Ytieooonobjkglaa
/- THE CELL 'sum', in the pinned program and in every row, IS THE sha256 OF THE DUMP (.gsa) THAT YtieooonobjkglaaProg.lean LOADS. Nothing in Lean hashes anything: it is a label: what it is worth is what the hold of that sum in a sandbox is worth. -/
noncomputable def Try.pinned : Pinned := { name := "ytieooonobjkglaa", sum := "c40634fde165e647a888410654ceea1731d8320b892eda501ceaeb2c2f2a1d5a", checked := Try.checked }
namespace Rows
def none {H : Type} : Left H := { results := [], args := [] }

/-- 'saltuslaw08.GcmOpens': WHATEVER THE INPUT: true; the input reads as it did. -/
def gcmOpensSpec : ChangeSpec := { name := "gcmOpens", fn := fun _ => fun
  | [d1, d2, d3, d4] => { results := [.lit (.bool true)], args := [d1, d2, d3, d4] }
  | _ => none }
def gcmOpensRow : OpenClaim := { program := "ytieooonobjkglaa", sum := "c40634fde165e647a888410654ceea1731d8320b892eda501ceaeb2c2f2a1d5a", func := "saltus/saltuslaw08.GcmOpens", spec := "gcmOpens", inPlace := ["internal/abi.NoEscape", "internal/bytealg.MakeNoZero"], unfollowed := true, recurses := true, apart := false }
def GcmOpensSaid : Prop := gcmOpensRow.holds Try.pinned (OpenSpec.ofChange gcmOpensSpec)

/-- ITS FALSE NEIGHBOUR: 'it returns false'. Refute it at one input. -/
def gcmOpensWrong : ChangeSpec := { name := "gcmOpens", fn := fun _ => fun
  | [d1, d2, d3, d4] => { results := [.lit (.bool false)], args := [d1, d2, d3, d4] }
  | _ => none }
def GcmOpensWrongFalsely : Prop := gcmOpensRow.holds Try.pinned (OpenSpec.ofChange gcmOpensWrong)

/-- 'saltuslaw08.GcmBack': WHATEVER THE INPUT: true; the input reads as it did. -/
def gcmBackSpec : ChangeSpec := { name := "gcmBack", fn := fun _ => fun
  | [d1, d2, d3, d4, d5, d6] => { results := [.lit (.bool true)], args := [d1, d2, d3, d4, d5, d6] }
  | _ => none }
def gcmBackRow : OpenClaim := { program := "ytieooonobjkglaa", sum := "c40634fde165e647a888410654ceea1731d8320b892eda501ceaeb2c2f2a1d5a", func := "saltus/saltuslaw08.GcmBack", spec := "gcmBack", inPlace := ["internal/abi.NoEscape", "internal/bytealg.MakeNoZero"], unfollowed := true, recurses := true, apart := false }
def GcmBackSaid : Prop := gcmBackRow.holds Try.pinned (OpenSpec.ofChange gcmBackSpec)

/-- ITS FALSE NEIGHBOUR: 'it returns false'. Refute it at one input. -/
def gcmBackWrong : ChangeSpec := { name := "gcmBack", fn := fun _ => fun
  | [d1, d2, d3, d4, d5, d6] => { results := [.lit (.bool false)], args := [d1, d2, d3, d4, d5, d6] }
  | _ => none }
def GcmBackWrongFalsely : Prop := gcmBackRow.holds Try.pinned (OpenSpec.ofChange gcmBackWrong)

/-- 'saltuslaw01.SpanUnions': WHATEVER THE INPUT: true; the input reads as it did. -/
def spanUnionsSpec : ChangeSpec := { name := "spanUnions", fn := fun _ => fun
  | [d] => { results := [.lit (.bool true)], args := [d] }
  | _ => none }
def spanUnionsRow : OpenClaim := { program := "ytieooonobjkglaa", sum := "c40634fde165e647a888410654ceea1731d8320b892eda501ceaeb2c2f2a1d5a", func := "saltus/saltuslaw01.SpanUnions", spec := "spanUnions", unfollowed := true, recurses := true, apart := false }
def SpanUnionsSaid : Prop := spanUnionsRow.holds Try.pinned (OpenSpec.ofChange spanUnionsSpec)

/-- ITS FALSE NEIGHBOUR: 'it returns false'. Refute it at one input. -/
def spanUnionsWrong : ChangeSpec := { name := "spanUnions", fn := fun _ => fun
  | [d] => { results := [.lit (.bool false)], args := [d] }
  | _ => none }
def SpanUnionsWrongFalsely : Prop := spanUnionsRow.holds Try.pinned (OpenSpec.ofChange spanUnionsWrong)

/-- 'saltuslaw20.ModelWrites': WHATEVER THE INPUT: true; the input reads as it did. -/
def modelWritesSpec : ChangeSpec := { name := "modelWrites", fn := fun _ => fun
  | [d1, d2, d3, d4, d5] => { results := [.lit (.bool true)], args := [d1, d2, d3, d4, d5] }
  | _ => none }
def modelWritesRow : OpenClaim := { program := "ytieooonobjkglaa", sum := "c40634fde165e647a888410654ceea1731d8320b892eda501ceaeb2c2f2a1d5a", func := "saltus/saltuslaw20.ModelWrites", spec := "modelWrites", inPlace := ["internal/abi.NoEscape", "internal/bytealg.MakeNoZero", "slices.overlaps[saltus/api.Cell]"], unfollowed := true, recurses := true, apart := false }
def ModelWritesSaid : Prop := modelWritesRow.holds Try.pinned (OpenSpec.ofChange modelWritesSpec)

/-- ITS FALSE NEIGHBOUR: 'it returns false'. Refute it at one input. -/
def modelWritesWrong : ChangeSpec := { name := "modelWrites", fn := fun _ => fun
  | [d1, d2, d3, d4, d5] => { results := [.lit (.bool false)], args := [d1, d2, d3, d4, d5] }
  | _ => none }
def ModelWritesWrongFalsely : Prop := modelWritesRow.holds Try.pinned (OpenSpec.ofChange modelWritesWrong)

/-- 'saltuslaw01.SpanOrder': WHATEVER THE INPUT: true; the input reads as it did. -/
def spanOrderSpec : ChangeSpec := { name := "spanOrder", fn := fun _ => fun
  | [d1, d2] => { results := [.lit (.bool true)], args := [d1, d2] }
  | _ => none }
def spanOrderRow : OpenClaim := { program := "ytieooonobjkglaa", sum := "c40634fde165e647a888410654ceea1731d8320b892eda501ceaeb2c2f2a1d5a", func := "saltus/saltuslaw01.SpanOrder", spec := "spanOrder", unfollowed := true, recurses := true, apart := false }
def SpanOrderSaid : Prop := spanOrderRow.holds Try.pinned (OpenSpec.ofChange spanOrderSpec)

/-- ITS FALSE NEIGHBOUR: 'it returns false'. Refute it at one input. -/
def spanOrderWrong : ChangeSpec := { name := "spanOrder", fn := fun _ => fun
  | [d1, d2] => { results := [.lit (.bool false)], args := [d1, d2] }
  | _ => none }
def SpanOrderWrongFalsely : Prop := spanOrderRow.holds Try.pinned (OpenSpec.ofChange spanOrderWrong)

/-- 'saltuslaw20.ModelClears': WHATEVER THE INPUT: true; the input reads as it did. -/
def modelClearsSpec : ChangeSpec := { name := "modelClears", fn := fun _ => fun
  | [d1, d2] => { results := [.lit (.bool true)], args := [d1, d2] }
  | _ => none }
def modelClearsRow : OpenClaim := { program := "ytieooonobjkglaa", sum := "c40634fde165e647a888410654ceea1731d8320b892eda501ceaeb2c2f2a1d5a", func := "saltus/saltuslaw20.ModelClears", spec := "modelClears", inPlace := ["internal/abi.NoEscape", "internal/bytealg.MakeNoZero", "slices.overlaps[saltus/api.Cell]"], unfollowed := true, recurses := true, apart := false }
def ModelClearsSaid : Prop := modelClearsRow.holds Try.pinned (OpenSpec.ofChange modelClearsSpec)

/-- ITS FALSE NEIGHBOUR: 'it returns false'. Refute it at one input. -/
def modelClearsWrong : ChangeSpec := { name := "modelClears", fn := fun _ => fun
  | [d1, d2] => { results := [.lit (.bool false)], args := [d1, d2] }
  | _ => none }
def ModelClearsWrongFalsely : Prop := modelClearsRow.holds Try.pinned (OpenSpec.ofChange modelClearsWrong)

/-- 'saltuslaw20.ModelReads': WHATEVER THE INPUT: true; the input reads as it did. -/
def modelReadsSpec : ChangeSpec := { name := "modelReads", fn := fun _ => fun
  | [d1, d2, d3, d4, d5] => { results := [.lit (.bool true)], args := [d1, d2, d3, d4, d5] }
  | _ => none }
def modelReadsRow : OpenClaim := { program := "ytieooonobjkglaa", sum := "c40634fde165e647a888410654ceea1731d8320b892eda501ceaeb2c2f2a1d5a", func := "saltus/saltuslaw20.ModelReads", spec := "modelReads", inPlace := ["internal/abi.NoEscape", "internal/bytealg.MakeNoZero", "slices.overlaps[saltus/api.Cell]"], unfollowed := true, recurses := true, apart := false }
def ModelReadsSaid : Prop := modelReadsRow.holds Try.pinned (OpenSpec.ofChange modelReadsSpec)

/-- ITS FALSE NEIGHBOUR: 'it returns false'. Refute it at one input. -/
def modelReadsWrong : ChangeSpec := { name := "modelReads", fn := fun _ => fun
  | [d1, d2, d3, d4, d5] => { results := [.lit (.bool false)], args := [d1, d2, d3, d4, d5] }
  | _ => none }
def ModelReadsWrongFalsely : Prop := modelReadsRow.holds Try.pinned (OpenSpec.ofChange modelReadsWrong)

/- THE SECOND FORM. 'bulk': how many values and letters a reading holds, each counted each time it is reached (what is shared counts as often as it is met; a slice's spare places count too). A statement '..UptoSaid' is the law's where the arguments, and the package variables that the reading takes, are together of bulk at most 1048576: NARROWER than '..Said'. Prove '..Said' where nothing that the law and all that it calls make is longer than what came in: it says more and counts as full. Else prove '..UptoSaid'. A law counts once. -/
mutual
def uptoBulk {H : Type} : DataW H → Nat
  | .lit (.string bytes) => bytes.length + 1
  | .lit _ => 1
  | .nil => 1
  | .ptr d => uptoBulk d + 1
  | .slice elems spare => uptoBulkAll elems + uptoBulkAll spare + 1
  | .agg parts => uptoBulkAll parts + 1
  | .iface _ d => uptoBulk d + 1
  | .map entries => uptoBulkEntries entries + 1
  | .held _ => 1
def uptoBulkAll {H : Type} : List (DataW H) → Nat
  | [] => 0
  | d :: r => uptoBulk d + uptoBulkAll r
def uptoBulkEntries {H : Type} : List (Lit × DataW H) → Nat
  | [] => 0
  | x :: r => uptoBulkEntry x + uptoBulkEntries r
def uptoBulkEntry {H : Type} : Lit × DataW H → Nat
  | (.string bytes, d) => bytes.length + uptoBulk d + 1
  | (_, d) => uptoBulk d + 1
 end
def uptoSmall : (H : Type) → List (DataW H) → Bool := fun _ ds => decide (uptoBulkAll ds ≤ 1048576)
def OpenSpec.upto (s : _root_.Go.ChangeSpec) : _root_.Go.OpenSpec := { _root_.Go.OpenSpec.ofChange s with cond := some uptoSmall }

/-- 'saltuslaw08.GcmOpens', WHERE WHAT IT READS IS OF BULK AT MOST 1048576: true; the input reads as it did. -/
def gcmOpensUptoRow : OpenClaim := { program := "ytieooonobjkglaa", sum := "c40634fde165e647a888410654ceea1731d8320b892eda501ceaeb2c2f2a1d5a", func := "saltus/saltuslaw08.GcmOpens", spec := "gcmOpens", inPlace := ["internal/abi.NoEscape", "internal/bytealg.MakeNoZero"], unfollowed := true, recurses := true, apart := false, narrowed := true }
def GcmOpensUptoSaid : Prop := gcmOpensUptoRow.holds Try.pinned (OpenSpec.upto gcmOpensSpec)

/-- 'saltuslaw08.GcmBack', WHERE WHAT IT READS IS OF BULK AT MOST 1048576: true; the input reads as it did. -/
def gcmBackUptoRow : OpenClaim := { program := "ytieooonobjkglaa", sum := "c40634fde165e647a888410654ceea1731d8320b892eda501ceaeb2c2f2a1d5a", func := "saltus/saltuslaw08.GcmBack", spec := "gcmBack", inPlace := ["internal/abi.NoEscape", "internal/bytealg.MakeNoZero"], unfollowed := true, recurses := true, apart := false, narrowed := true }
def GcmBackUptoSaid : Prop := gcmBackUptoRow.holds Try.pinned (OpenSpec.upto gcmBackSpec)

/-- 'saltuslaw01.SpanUnions', WHERE WHAT IT READS IS OF BULK AT MOST 1048576: true; the input reads as it did. -/
def spanUnionsUptoRow : OpenClaim := { program := "ytieooonobjkglaa", sum := "c40634fde165e647a888410654ceea1731d8320b892eda501ceaeb2c2f2a1d5a", func := "saltus/saltuslaw01.SpanUnions", spec := "spanUnions", unfollowed := true, recurses := true, apart := false, narrowed := true }
def SpanUnionsUptoSaid : Prop := spanUnionsUptoRow.holds Try.pinned (OpenSpec.upto spanUnionsSpec)

/-- 'saltuslaw20.ModelWrites', WHERE WHAT IT READS IS OF BULK AT MOST 1048576: true; the input reads as it did. -/
def modelWritesUptoRow : OpenClaim := { program := "ytieooonobjkglaa", sum := "c40634fde165e647a888410654ceea1731d8320b892eda501ceaeb2c2f2a1d5a", func := "saltus/saltuslaw20.ModelWrites", spec := "modelWrites", inPlace := ["internal/abi.NoEscape", "internal/bytealg.MakeNoZero", "slices.overlaps[saltus/api.Cell]"], unfollowed := true, recurses := true, apart := false, narrowed := true }
def ModelWritesUptoSaid : Prop := modelWritesUptoRow.holds Try.pinned (OpenSpec.upto modelWritesSpec)

/-- 'saltuslaw01.SpanOrder', WHERE WHAT IT READS IS OF BULK AT MOST 1048576: true; the input reads as it did. -/
def spanOrderUptoRow : OpenClaim := { program := "ytieooonobjkglaa", sum := "c40634fde165e647a888410654ceea1731d8320b892eda501ceaeb2c2f2a1d5a", func := "saltus/saltuslaw01.SpanOrder", spec := "spanOrder", unfollowed := true, recurses := true, apart := false, narrowed := true }
def SpanOrderUptoSaid : Prop := spanOrderUptoRow.holds Try.pinned (OpenSpec.upto spanOrderSpec)

/-- 'saltuslaw20.ModelClears', WHERE WHAT IT READS IS OF BULK AT MOST 1048576: true; the input reads as it did. -/
def modelClearsUptoRow : OpenClaim := { program := "ytieooonobjkglaa", sum := "c40634fde165e647a888410654ceea1731d8320b892eda501ceaeb2c2f2a1d5a", func := "saltus/saltuslaw20.ModelClears", spec := "modelClears", inPlace := ["internal/abi.NoEscape", "internal/bytealg.MakeNoZero", "slices.overlaps[saltus/api.Cell]"], unfollowed := true, recurses := true, apart := false, narrowed := true }
def ModelClearsUptoSaid : Prop := modelClearsUptoRow.holds Try.pinned (OpenSpec.upto modelClearsSpec)

/-- 'saltuslaw20.ModelReads', WHERE WHAT IT READS IS OF BULK AT MOST 1048576: true; the input reads as it did. -/
def modelReadsUptoRow : OpenClaim := { program := "ytieooonobjkglaa", sum := "c40634fde165e647a888410654ceea1731d8320b892eda501ceaeb2c2f2a1d5a", func := "saltus/saltuslaw20.ModelReads", spec := "modelReads", inPlace := ["internal/abi.NoEscape", "internal/bytealg.MakeNoZero", "slices.overlaps[saltus/api.Cell]"], unfollowed := true, recurses := true, apart := false, narrowed := true }
def ModelReadsUptoSaid : Prop := modelReadsUptoRow.holds Try.pinned (OpenSpec.upto modelReadsSpec)

end Rows
end Go.Proofs.Ytieooonobjkglaa
