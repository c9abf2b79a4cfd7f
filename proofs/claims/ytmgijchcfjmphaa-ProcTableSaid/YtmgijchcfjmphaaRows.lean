/-
  No cell of these rows narrows 'for every input' (looked for: loops, veiled, ifaces, maps, wideKeys, modest, calm, conditions, laid).
  DERIVED. THE GIVEN ROWS OF THIS SEAT. 5 by the template 'for every input the law returns true; each argument reads behind the call as it read before'; 0 by the template 'total and deterministic' (their statements: YtmgijchcfjmphaaTotals.lean).
  GIVEN WITH THE SEED: the statements are not yours to turn. If you find one false, say at which input.
  Laid BY PROGRAM, IN A SANDBOX (cutbox-rows.mjs): the forced cells as the released guide's own fill.sh prints them over the translation d830900ba6bebe41… (all of the seat's roots in one cut). By AI agents, Wed Nov 11 2026. No macro, syntax, notation, axiom, sorry.
-/
import Derived.Test.YtmgijchcfjmphaaChecked
import GoSem.Claim
import GoSem.ClaimJoined
import GoSem.ClaimMapViews
import Derived.JoinedTies
import Derived.KernelRfl
namespace Go.Proofs.Ytmgijchcfjmphaa
/- THE CELL 'sum', in the pinned program and in every row, IS THE sha256 OF THE DUMP (.gsa) THAT YtmgijchcfjmphaaProg.lean LOADS. Nothing in Lean hashes anything: it is a label: what it is worth is what the hold of that sum in a sandbox is worth. -/
noncomputable def Try.pinned : Pinned := { name := "ytmgijchcfjmphaa", sum := "d830900ba6bebe415c0b08741f7ba29d2180cac2bf06305e054cf63513f44ef9", checked := Try.checked }
namespace Rows
def none {H : Type} : Left H := { results := [], args := [] }

/-- 'cloisterlaw17.ArgRuns': WHATEVER THE INPUT: true; the input reads as it did. -/
def argRunsSpec : ChangeSpec := { name := "argRuns", fn := fun _ => fun
  | [] => { results := [.lit (.bool true)], args := [] }
  | _ => none }
def argRunsRow : OpenClaim := { program := "ytmgijchcfjmphaa", sum := "d830900ba6bebe415c0b08741f7ba29d2180cac2bf06305e054cf63513f44ef9", func := "cloister/cloisterlaw17.ArgRuns", spec := "argRuns", inPlace := ["internal/bytealg.IndexByteString"], plainKeys := false, apart := false }
def ArgRunsSaid : Prop := argRunsRow.holds Try.pinned (OpenSpec.ofChange argRunsSpec)

/-- ITS FALSE NEIGHBOUR: 'it returns false'. Refute it at one input. -/
def argRunsWrong : ChangeSpec := { name := "argRuns", fn := fun _ => fun
  | [] => { results := [.lit (.bool false)], args := [] }
  | _ => none }
def ArgRunsWrongFalsely : Prop := argRunsRow.holds Try.pinned (OpenSpec.ofChange argRunsWrong)

/-- 'cloisterlaw17.ArgText': WHATEVER THE INPUT: true; the input reads as it did. -/
def argTextSpec : ChangeSpec := { name := "argText", fn := fun _ => fun
  | [d1, d2, d3] => { results := [.lit (.bool true)], args := [d1, d2, d3] }
  | _ => none }
def argTextRow : OpenClaim := { program := "ytmgijchcfjmphaa", sum := "d830900ba6bebe415c0b08741f7ba29d2180cac2bf06305e054cf63513f44ef9", func := "cloister/cloisterlaw17.ArgText", spec := "argText", inPlace := ["internal/bytealg.IndexByteString"], plainKeys := false, apart := false }
def ArgTextSaid : Prop := argTextRow.holds Try.pinned (OpenSpec.ofChange argTextSpec)

/-- ITS FALSE NEIGHBOUR: 'it returns false'. Refute it at one input. -/
def argTextWrong : ChangeSpec := { name := "argText", fn := fun _ => fun
  | [d1, d2, d3] => { results := [.lit (.bool false)], args := [d1, d2, d3] }
  | _ => none }
def ArgTextWrongFalsely : Prop := argTextRow.holds Try.pinned (OpenSpec.ofChange argTextWrong)

/-- 'cloisterlaw15.ProcRuns': WHATEVER THE INPUT: true; the input reads as it did. -/
def procRunsSpec : ChangeSpec := { name := "procRuns", fn := fun _ => fun
  | [] => { results := [.lit (.bool true)], args := [] }
  | _ => none }
def procRunsRow : OpenClaim := { program := "ytmgijchcfjmphaa", sum := "d830900ba6bebe415c0b08741f7ba29d2180cac2bf06305e054cf63513f44ef9", func := "cloister/cloisterlaw15.ProcRuns", spec := "procRuns", plainKeys := false, apart := false }
def ProcRunsSaid : Prop := procRunsRow.holds Try.pinned (OpenSpec.ofChange procRunsSpec)

/-- ITS FALSE NEIGHBOUR: 'it returns false'. Refute it at one input. -/
def procRunsWrong : ChangeSpec := { name := "procRuns", fn := fun _ => fun
  | [] => { results := [.lit (.bool false)], args := [] }
  | _ => none }
def ProcRunsWrongFalsely : Prop := procRunsRow.holds Try.pinned (OpenSpec.ofChange procRunsWrong)

/-- 'cloisterlaw15.ProcFds': WHATEVER THE INPUT: true; the input reads as it did. -/
def procFdsSpec : ChangeSpec := { name := "procFds", fn := fun _ => fun
  | [d] => { results := [.lit (.bool true)], args := [d] }
  | _ => none }
def procFdsRow : OpenClaim := { program := "ytmgijchcfjmphaa", sum := "d830900ba6bebe415c0b08741f7ba29d2180cac2bf06305e054cf63513f44ef9", func := "cloister/cloisterlaw15.ProcFds", spec := "procFds", plainKeys := false, apart := false }
def ProcFdsSaid : Prop := procFdsRow.holds Try.pinned (OpenSpec.ofChange procFdsSpec)

/-- ITS FALSE NEIGHBOUR: 'it returns false'. Refute it at one input. -/
def procFdsWrong : ChangeSpec := { name := "procFds", fn := fun _ => fun
  | [d] => { results := [.lit (.bool false)], args := [d] }
  | _ => none }
def ProcFdsWrongFalsely : Prop := procFdsRow.holds Try.pinned (OpenSpec.ofChange procFdsWrong)

/-- 'cloisterlaw15.ProcTable': WHATEVER THE INPUT: true; the input reads as it did. -/
def procTableSpec : ChangeSpec := { name := "procTable", fn := fun _ => fun
  | [d] => { results := [.lit (.bool true)], args := [d] }
  | _ => none }
def procTableRow : OpenClaim := { program := "ytmgijchcfjmphaa", sum := "d830900ba6bebe415c0b08741f7ba29d2180cac2bf06305e054cf63513f44ef9", func := "cloister/cloisterlaw15.ProcTable", spec := "procTable", plainKeys := false, apart := false }
def ProcTableSaid : Prop := procTableRow.holds Try.pinned (OpenSpec.ofChange procTableSpec)

/-- ITS FALSE NEIGHBOUR: 'it returns false'. Refute it at one input. -/
def procTableWrong : ChangeSpec := { name := "procTable", fn := fun _ => fun
  | [d] => { results := [.lit (.bool false)], args := [d] }
  | _ => none }
def ProcTableWrongFalsely : Prop := procTableRow.holds Try.pinned (OpenSpec.ofChange procTableWrong)

/- THE SECOND FORM. 'bulk': how many values and letters a reading holds, each counted each time it is reached (what is shared counts as often as it is met; a slice's spare places count too). A statement '..UptoSaid' is the law's where the arguments, and the package variables that the reading takes, are together of bulk at most 1048576: NARROWER than '..Said'. Prove '..Said' where nothing that the law and all that it calls make is longer than what came in: it says more and counts as full. Else prove '..UptoSaid'. A law counts once. -/
mutual
def uptoBulk {H : Type} : DataW H → Nat
  | .lit (.string bytes) => bytes.length + 1
  | .lit _ => 1
  | .nil => 1
  | .ptr d => uptoBulk d + 1
  | .slice elems spare => uptoBulkAll elems + uptoBulkAll spare + 1
  | .agg parts => uptoBulkAll parts + 1
  | .iface _ d => uptoBulk d + 1
  | .map entries => uptoBulkEntries entries + 1
  | .held _ => 1
def uptoBulkAll {H : Type} : List (DataW H) → Nat
  | [] => 0
  | d :: r => uptoBulk d + uptoBulkAll r
def uptoBulkEntries {H : Type} : List (Lit × DataW H) → Nat
  | [] => 0
  | x :: r => uptoBulkEntry x + uptoBulkEntries r
def uptoBulkEntry {H : Type} : Lit × DataW H → Nat
  | (.string bytes, d) => bytes.length + uptoBulk d + 1
  | (_, d) => uptoBulk d + 1
 end
def uptoSmall : (H : Type) → List (DataW H) → Bool := fun _ ds => decide (uptoBulkAll ds ≤ 1048576)
def OpenSpec.upto (s : _root_.Go.ChangeSpec) : _root_.Go.OpenSpec := { _root_.Go.OpenSpec.ofChange s with cond := some uptoSmall }

/-- 'cloisterlaw17.ArgRuns', WHERE WHAT IT READS IS OF BULK AT MOST 1048576: true; the input reads as it did. -/
def argRunsUptoRow : OpenClaim := { program := "ytmgijchcfjmphaa", sum := "d830900ba6bebe415c0b08741f7ba29d2180cac2bf06305e054cf63513f44ef9", func := "cloister/cloisterlaw17.ArgRuns", spec := "argRuns", inPlace := ["internal/bytealg.IndexByteString"], plainKeys := false, apart := false, narrowed := true }
def ArgRunsUptoSaid : Prop := argRunsUptoRow.holds Try.pinned (OpenSpec.upto argRunsSpec)

/-- 'cloisterlaw17.ArgText', WHERE WHAT IT READS IS OF BULK AT MOST 1048576: true; the input reads as it did. -/
def argTextUptoRow : OpenClaim := { program := "ytmgijchcfjmphaa", sum := "d830900ba6bebe415c0b08741f7ba29d2180cac2bf06305e054cf63513f44ef9", func := "cloister/cloisterlaw17.ArgText", spec := "argText", inPlace := ["internal/bytealg.IndexByteString"], plainKeys := false, apart := false, narrowed := true }
def ArgTextUptoSaid : Prop := argTextUptoRow.holds Try.pinned (OpenSpec.upto argTextSpec)

/-- 'cloisterlaw15.ProcRuns', WHERE WHAT IT READS IS OF BULK AT MOST 1048576: true; the input reads as it did. -/
def procRunsUptoRow : OpenClaim := { program := "ytmgijchcfjmphaa", sum := "d830900ba6bebe415c0b08741f7ba29d2180cac2bf06305e054cf63513f44ef9", func := "cloister/cloisterlaw15.ProcRuns", spec := "procRuns", plainKeys := false, apart := false, narrowed := true }
def ProcRunsUptoSaid : Prop := procRunsUptoRow.holds Try.pinned (OpenSpec.upto procRunsSpec)

/-- 'cloisterlaw15.ProcFds', WHERE WHAT IT READS IS OF BULK AT MOST 1048576: true; the input reads as it did. -/
def procFdsUptoRow : OpenClaim := { program := "ytmgijchcfjmphaa", sum := "d830900ba6bebe415c0b08741f7ba29d2180cac2bf06305e054cf63513f44ef9", func := "cloister/cloisterlaw15.ProcFds", spec := "procFds", plainKeys := false, apart := false, narrowed := true }
def ProcFdsUptoSaid : Prop := procFdsUptoRow.holds Try.pinned (OpenSpec.upto procFdsSpec)

/-- 'cloisterlaw15.ProcTable', WHERE WHAT IT READS IS OF BULK AT MOST 1048576: true; the input reads as it did. -/
def procTableUptoRow : OpenClaim := { program := "ytmgijchcfjmphaa", sum := "d830900ba6bebe415c0b08741f7ba29d2180cac2bf06305e054cf63513f44ef9", func := "cloister/cloisterlaw15.ProcTable", spec := "procTable", plainKeys := false, apart := false, narrowed := true }
def ProcTableUptoSaid : Prop := procTableUptoRow.holds Try.pinned (OpenSpec.upto procTableSpec)

end Rows
end Go.Proofs.Ytmgijchcfjmphaa
