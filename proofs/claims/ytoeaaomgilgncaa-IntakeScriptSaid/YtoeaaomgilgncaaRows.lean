/-
  No cell of these rows narrows 'for every input' (looked for: loops, veiled, ifaces, maps, wideKeys, modest, calm, conditions, laid).
  DERIVED. THE GIVEN ROWS OF THIS SEAT. 4 by the template 'for every input the law returns true; each argument reads behind the call as it read before'; 0 by the template 'total and deterministic' (their statements: YtoeaaomgilgncaaTotals.lean).
  GIVEN WITH THE SEED: the statements are not yours to turn. If you find one false, say at which input.
  Laid BY PROGRAM, IN A SANDBOX (cutbox-rows.mjs): the forced cells as the released guide's own fill.sh prints them over the translation 564f17101f92d50c… (all of the seat's roots in one cut). By AI agents, Wed Nov 11 2026. No macro, syntax, notation, axiom, sorry.
-/
import Derived.Test.YtoeaaomgilgncaaChecked
import GoSem.Claim
import GoSem.ClaimJoined
import GoSem.ClaimMapViews
import Derived.JoinedTies
import Derived.KernelRfl
namespace Go.Proofs.Ytoeaaomgilgncaa
/- THE CELL 'sum', in the pinned program and in every row, IS THE sha256 OF THE DUMP (.gsa) THAT YtoeaaomgilgncaaProg.lean LOADS. Nothing in Lean hashes anything: it is a label: what it is worth is what the hold of that sum in a sandbox is worth. -/
noncomputable def Try.pinned : Pinned := { name := "ytoeaaomgilgncaa", sum := "564f17101f92d50c515e9c1ab996ed01a2f9acf8e70428a89aa5d59652c18db7", checked := Try.checked }
namespace Rows
def none {H : Type} : Left H := { results := [], args := [] }

/-- 'stintlaw06.IntakeScript': WHATEVER THE INPUT: true; the input reads as it did. -/
def intakeScriptSpec : ChangeSpec := { name := "intakeScript", fn := fun _ => fun
  | [d1, d2, d3] => { results := [.lit (.bool true)], args := [d1, d2, d3] }
  | _ => none }
def intakeScriptRow : OpenClaim := { program := "ytoeaaomgilgncaa", sum := "564f17101f92d50c515e9c1ab996ed01a2f9acf8e70428a89aa5d59652c18db7", func := "stint/stintlaw06.IntakeScript", spec := "intakeScript", inPlace := ["internal/bytealg.IndexByte", "internal/bytealg.Index"], named := ["internal/bytealg.MaxLen"], apart := false }
def IntakeScriptSaid : Prop := intakeScriptRow.holds Try.pinned (OpenSpec.ofChange intakeScriptSpec)

/-- ITS FALSE NEIGHBOUR: 'it returns false'. Refute it at one input. -/
def intakeScriptWrong : ChangeSpec := { name := "intakeScript", fn := fun _ => fun
  | [d1, d2, d3] => { results := [.lit (.bool false)], args := [d1, d2, d3] }
  | _ => none }
def IntakeScriptWrongFalsely : Prop := intakeScriptRow.holds Try.pinned (OpenSpec.ofChange intakeScriptWrong)

/-- 'stintlaw06.IntakeCuts': WHATEVER THE INPUT: true; the input reads as it did. -/
def intakeCutsSpec : ChangeSpec := { name := "intakeCuts", fn := fun _ => fun
  | [d1, d2, d3, d4] => { results := [.lit (.bool true)], args := [d1, d2, d3, d4] }
  | _ => none }
def intakeCutsRow : OpenClaim := { program := "ytoeaaomgilgncaa", sum := "564f17101f92d50c515e9c1ab996ed01a2f9acf8e70428a89aa5d59652c18db7", func := "stint/stintlaw06.IntakeCuts", spec := "intakeCuts", inPlace := ["internal/bytealg.IndexByte", "internal/bytealg.Index"], named := ["internal/bytealg.MaxLen"], apart := false }
def IntakeCutsSaid : Prop := intakeCutsRow.holds Try.pinned (OpenSpec.ofChange intakeCutsSpec)

/-- ITS FALSE NEIGHBOUR: 'it returns false'. Refute it at one input. -/
def intakeCutsWrong : ChangeSpec := { name := "intakeCuts", fn := fun _ => fun
  | [d1, d2, d3, d4] => { results := [.lit (.bool false)], args := [d1, d2, d3, d4] }
  | _ => none }
def IntakeCutsWrongFalsely : Prop := intakeCutsRow.holds Try.pinned (OpenSpec.ofChange intakeCutsWrong)

/-- 'stintlaw06.IntakeParts': WHATEVER THE INPUT: true; the input reads as it did. -/
def intakePartsSpec : ChangeSpec := { name := "intakeParts", fn := fun _ => fun
  | [d1, d2, d3] => { results := [.lit (.bool true)], args := [d1, d2, d3] }
  | _ => none }
def intakePartsRow : OpenClaim := { program := "ytoeaaomgilgncaa", sum := "564f17101f92d50c515e9c1ab996ed01a2f9acf8e70428a89aa5d59652c18db7", func := "stint/stintlaw06.IntakeParts", spec := "intakeParts", inPlace := ["internal/bytealg.IndexByte", "internal/bytealg.Index"], named := ["internal/bytealg.MaxLen"], apart := false }
def IntakePartsSaid : Prop := intakePartsRow.holds Try.pinned (OpenSpec.ofChange intakePartsSpec)

/-- ITS FALSE NEIGHBOUR: 'it returns false'. Refute it at one input. -/
def intakePartsWrong : ChangeSpec := { name := "intakeParts", fn := fun _ => fun
  | [d1, d2, d3] => { results := [.lit (.bool false)], args := [d1, d2, d3] }
  | _ => none }
def IntakePartsWrongFalsely : Prop := intakePartsRow.holds Try.pinned (OpenSpec.ofChange intakePartsWrong)

/-- 'stintlaw06.IntakeBounds': WHATEVER THE INPUT: true; the input reads as it did. -/
def intakeBoundsSpec : ChangeSpec := { name := "intakeBounds", fn := fun _ => fun
  | [d1, d2] => { results := [.lit (.bool true)], args := [d1, d2] }
  | _ => none }
def intakeBoundsRow : OpenClaim := { program := "ytoeaaomgilgncaa", sum := "564f17101f92d50c515e9c1ab996ed01a2f9acf8e70428a89aa5d59652c18db7", func := "stint/stintlaw06.IntakeBounds", spec := "intakeBounds", inPlace := ["internal/bytealg.IndexByte", "internal/bytealg.Index"], named := ["internal/bytealg.MaxLen"], apart := false }
def IntakeBoundsSaid : Prop := intakeBoundsRow.holds Try.pinned (OpenSpec.ofChange intakeBoundsSpec)

/-- ITS FALSE NEIGHBOUR: 'it returns false'. Refute it at one input. -/
def intakeBoundsWrong : ChangeSpec := { name := "intakeBounds", fn := fun _ => fun
  | [d1, d2] => { results := [.lit (.bool false)], args := [d1, d2] }
  | _ => none }
def IntakeBoundsWrongFalsely : Prop := intakeBoundsRow.holds Try.pinned (OpenSpec.ofChange intakeBoundsWrong)

/- THE SECOND FORM. 'bulk': how many values and letters a reading holds, each counted each time it is reached (what is shared counts as often as it is met; a slice's spare places count too). A statement '..UptoSaid' is the law's where the arguments, and the package variables that the reading takes, are together of bulk at most 1048576: NARROWER than '..Said'. Prove '..Said' where nothing that the law and all that it calls make is longer than what came in: it says more and counts as full. Else prove '..UptoSaid'. A law counts once. -/
mutual
def uptoBulk {H : Type} : DataW H → Nat
  | .lit (.string bytes) => bytes.length + 1
  | .lit _ => 1
  | .nil => 1
  | .ptr d => uptoBulk d + 1
  | .slice elems spare => uptoBulkAll elems + uptoBulkAll spare + 1
  | .agg parts => uptoBulkAll parts + 1
  | .iface _ d => uptoBulk d + 1
  | .map entries => uptoBulkEntries entries + 1
  | .held _ => 1
def uptoBulkAll {H : Type} : List (DataW H) → Nat
  | [] => 0
  | d :: r => uptoBulk d + uptoBulkAll r
def uptoBulkEntries {H : Type} : List (Lit × DataW H) → Nat
  | [] => 0
  | x :: r => uptoBulkEntry x + uptoBulkEntries r
def uptoBulkEntry {H : Type} : Lit × DataW H → Nat
  | (.string bytes, d) => bytes.length + uptoBulk d + 1
  | (_, d) => uptoBulk d + 1
 end
def uptoSmall : (H : Type) → List (DataW H) → Bool := fun _ ds => decide (uptoBulkAll ds ≤ 1048576)
def OpenSpec.upto (s : _root_.Go.ChangeSpec) : _root_.Go.OpenSpec := { _root_.Go.OpenSpec.ofChange s with cond := some uptoSmall }

/-- 'stintlaw06.IntakeScript', WHERE WHAT IT READS IS OF BULK AT MOST 1048576: true; the input reads as it did. -/
def intakeScriptUptoRow : OpenClaim := { program := "ytoeaaomgilgncaa", sum := "564f17101f92d50c515e9c1ab996ed01a2f9acf8e70428a89aa5d59652c18db7", func := "stint/stintlaw06.IntakeScript", spec := "intakeScript", inPlace := ["internal/bytealg.IndexByte", "internal/bytealg.Index"], named := ["internal/bytealg.MaxLen"], apart := false, narrowed := true }
def IntakeScriptUptoSaid : Prop := intakeScriptUptoRow.holds Try.pinned (OpenSpec.upto intakeScriptSpec)

/-- 'stintlaw06.IntakeCuts', WHERE WHAT IT READS IS OF BULK AT MOST 1048576: true; the input reads as it did. -/
def intakeCutsUptoRow : OpenClaim := { program := "ytoeaaomgilgncaa", sum := "564f17101f92d50c515e9c1ab996ed01a2f9acf8e70428a89aa5d59652c18db7", func := "stint/stintlaw06.IntakeCuts", spec := "intakeCuts", inPlace := ["internal/bytealg.IndexByte", "internal/bytealg.Index"], named := ["internal/bytealg.MaxLen"], apart := false, narrowed := true }
def IntakeCutsUptoSaid : Prop := intakeCutsUptoRow.holds Try.pinned (OpenSpec.upto intakeCutsSpec)

/-- 'stintlaw06.IntakeParts', WHERE WHAT IT READS IS OF BULK AT MOST 1048576: true; the input reads as it did. -/
def intakePartsUptoRow : OpenClaim := { program := "ytoeaaomgilgncaa", sum := "564f17101f92d50c515e9c1ab996ed01a2f9acf8e70428a89aa5d59652c18db7", func := "stint/stintlaw06.IntakeParts", spec := "intakeParts", inPlace := ["internal/bytealg.IndexByte", "internal/bytealg.Index"], named := ["internal/bytealg.MaxLen"], apart := false, narrowed := true }
def IntakePartsUptoSaid : Prop := intakePartsUptoRow.holds Try.pinned (OpenSpec.upto intakePartsSpec)

/-- 'stintlaw06.IntakeBounds', WHERE WHAT IT READS IS OF BULK AT MOST 1048576: true; the input reads as it did. -/
def intakeBoundsUptoRow : OpenClaim := { program := "ytoeaaomgilgncaa", sum := "564f17101f92d50c515e9c1ab996ed01a2f9acf8e70428a89aa5d59652c18db7", func := "stint/stintlaw06.IntakeBounds", spec := "intakeBounds", inPlace := ["internal/bytealg.IndexByte", "internal/bytealg.Index"], named := ["internal/bytealg.MaxLen"], apart := false, narrowed := true }
def IntakeBoundsUptoSaid : Prop := intakeBoundsUptoRow.holds Try.pinned (OpenSpec.upto intakeBoundsSpec)

end Rows
end Go.Proofs.Ytoeaaomgilgncaa
