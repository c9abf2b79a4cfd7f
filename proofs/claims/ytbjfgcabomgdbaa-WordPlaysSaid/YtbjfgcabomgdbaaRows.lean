/-
  No cell of these rows narrows 'for every input' (looked for: loops, veiled, ifaces, maps, wideKeys, modest, calm, conditions, laid).
  DERIVED. THE GIVEN ROWS OF THIS SEAT. 9 by the template 'for every input the law returns true; each argument reads behind the call as it read before'; 0 by the template 'total and deterministic' (their statements: YtbjfgcabomgdbaaTotals.lean).
  GIVEN WITH THE SEED: the statements are not yours to turn. If you find one false, say at which input.
  Laid BY PROGRAM, IN A SANDBOX (cutbox-rows.mjs): the forced cells as the released guide's own fill.sh prints them over the translation d7adb0bc1d1d3012… (all of the seat's roots in one cut). By AI agents, Wed Nov 11 2026. No macro, syntax, notation, axiom, sorry.
-/
import Derived.Test.YtbjfgcabomgdbaaChecked
import GoSem.Claim
import GoSem.ClaimJoined
import GoSem.ClaimMapViews
import Derived.JoinedTies
import Derived.KernelRfl
namespace Go.Proofs.Ytbjfgcabomgdbaa
/- THE CELL 'sum', in the pinned program and in every row, IS THE sha256 OF THE DUMP (.gsa) THAT YtbjfgcabomgdbaaProg.lean LOADS. Nothing in Lean hashes anything: it is a label: what it is worth is what the hold of that sum in a sandbox is worth. -/
noncomputable def Try.pinned : Pinned := { name := "ytbjfgcabomgdbaa", sum := "d7adb0bc1d1d3012cfdae6d5f7c1acf97a6f5e2aebab96c5498a7b8e07f9a0a7", checked := Try.checked }
namespace Rows
def none {H : Type} : Left H := { results := [], args := [] }

/-- 'cloisterlaw2.HaltRuns': WHATEVER THE INPUT: true; the input reads as it did. -/
def haltRunsSpec : ChangeSpec := { name := "haltRuns", fn := fun _ => fun
  | [] => { results := [.lit (.bool true)], args := [] }
  | _ => none }
def haltRunsRow : OpenClaim := { program := "ytbjfgcabomgdbaa", sum := "d7adb0bc1d1d3012cfdae6d5f7c1acf97a6f5e2aebab96c5498a7b8e07f9a0a7", func := "cloister/cloisterlaw2.HaltRuns", spec := "haltRuns", unfollowed := true, recurses := true, apart := false }
def HaltRunsSaid : Prop := haltRunsRow.holds Try.pinned (OpenSpec.ofChange haltRunsSpec)

/-- ITS FALSE NEIGHBOUR: 'it returns false'. Refute it at one input. -/
def haltRunsWrong : ChangeSpec := { name := "haltRuns", fn := fun _ => fun
  | [] => { results := [.lit (.bool false)], args := [] }
  | _ => none }
def HaltRunsWrongFalsely : Prop := haltRunsRow.holds Try.pinned (OpenSpec.ofChange haltRunsWrong)

/-- 'cloisterlaw2.HaltRows': WHATEVER THE INPUT: true; the input reads as it did. -/
def haltRowsSpec : ChangeSpec := { name := "haltRows", fn := fun _ => fun
  | [d] => { results := [.lit (.bool true)], args := [d] }
  | _ => none }
def haltRowsRow : OpenClaim := { program := "ytbjfgcabomgdbaa", sum := "d7adb0bc1d1d3012cfdae6d5f7c1acf97a6f5e2aebab96c5498a7b8e07f9a0a7", func := "cloister/cloisterlaw2.HaltRows", spec := "haltRows", unfollowed := true, recurses := true, apart := false }
def HaltRowsSaid : Prop := haltRowsRow.holds Try.pinned (OpenSpec.ofChange haltRowsSpec)

/-- ITS FALSE NEIGHBOUR: 'it returns false'. Refute it at one input. -/
def haltRowsWrong : ChangeSpec := { name := "haltRows", fn := fun _ => fun
  | [d] => { results := [.lit (.bool false)], args := [d] }
  | _ => none }
def HaltRowsWrongFalsely : Prop := haltRowsRow.holds Try.pinned (OpenSpec.ofChange haltRowsWrong)

/-- 'cloisterlaw2.HaltDeep': WHATEVER THE INPUT: true; the input reads as it did. -/
def haltDeepSpec : ChangeSpec := { name := "haltDeep", fn := fun _ => fun
  | [d1, d2, d3] => { results := [.lit (.bool true)], args := [d1, d2, d3] }
  | _ => none }
def haltDeepRow : OpenClaim := { program := "ytbjfgcabomgdbaa", sum := "d7adb0bc1d1d3012cfdae6d5f7c1acf97a6f5e2aebab96c5498a7b8e07f9a0a7", func := "cloister/cloisterlaw2.HaltDeep", spec := "haltDeep", unfollowed := true, recurses := true, apart := false }
def HaltDeepSaid : Prop := haltDeepRow.holds Try.pinned (OpenSpec.ofChange haltDeepSpec)

/-- ITS FALSE NEIGHBOUR: 'it returns false'. Refute it at one input. -/
def haltDeepWrong : ChangeSpec := { name := "haltDeep", fn := fun _ => fun
  | [d1, d2, d3] => { results := [.lit (.bool false)], args := [d1, d2, d3] }
  | _ => none }
def HaltDeepWrongFalsely : Prop := haltDeepRow.holds Try.pinned (OpenSpec.ofChange haltDeepWrong)

/-- 'cloisterlaw2.HaltNest': WHATEVER THE INPUT: true; the input reads as it did. -/
def haltNestSpec : ChangeSpec := { name := "haltNest", fn := fun _ => fun
  | [d1, d2] => { results := [.lit (.bool true)], args := [d1, d2] }
  | _ => none }
def haltNestRow : OpenClaim := { program := "ytbjfgcabomgdbaa", sum := "d7adb0bc1d1d3012cfdae6d5f7c1acf97a6f5e2aebab96c5498a7b8e07f9a0a7", func := "cloister/cloisterlaw2.HaltNest", spec := "haltNest", unfollowed := true, recurses := true, apart := false }
def HaltNestSaid : Prop := haltNestRow.holds Try.pinned (OpenSpec.ofChange haltNestSpec)

/-- ITS FALSE NEIGHBOUR: 'it returns false'. Refute it at one input. -/
def haltNestWrong : ChangeSpec := { name := "haltNest", fn := fun _ => fun
  | [d1, d2] => { results := [.lit (.bool false)], args := [d1, d2] }
  | _ => none }
def HaltNestWrongFalsely : Prop := haltNestRow.holds Try.pinned (OpenSpec.ofChange haltNestWrong)

/-- 'cloisterlaw2.HaltAfter': WHATEVER THE INPUT: true; the input reads as it did. -/
def haltAfterSpec : ChangeSpec := { name := "haltAfter", fn := fun _ => fun
  | [d1, d2, d3] => { results := [.lit (.bool true)], args := [d1, d2, d3] }
  | _ => none }
def haltAfterRow : OpenClaim := { program := "ytbjfgcabomgdbaa", sum := "d7adb0bc1d1d3012cfdae6d5f7c1acf97a6f5e2aebab96c5498a7b8e07f9a0a7", func := "cloister/cloisterlaw2.HaltAfter", spec := "haltAfter", unfollowed := true, recurses := true, apart := false }
def HaltAfterSaid : Prop := haltAfterRow.holds Try.pinned (OpenSpec.ofChange haltAfterSpec)

/-- ITS FALSE NEIGHBOUR: 'it returns false'. Refute it at one input. -/
def haltAfterWrong : ChangeSpec := { name := "haltAfter", fn := fun _ => fun
  | [d1, d2, d3] => { results := [.lit (.bool false)], args := [d1, d2, d3] }
  | _ => none }
def HaltAfterWrongFalsely : Prop := haltAfterRow.holds Try.pinned (OpenSpec.ofChange haltAfterWrong)

/-- 'cloisterlaw3.WordRuns': WHATEVER THE INPUT: true; the input reads as it did. -/
def wordRunsSpec : ChangeSpec := { name := "wordRuns", fn := fun _ => fun
  | [] => { results := [.lit (.bool true)], args := [] }
  | _ => none }
def wordRunsRow : OpenClaim := { program := "ytbjfgcabomgdbaa", sum := "d7adb0bc1d1d3012cfdae6d5f7c1acf97a6f5e2aebab96c5498a7b8e07f9a0a7", func := "cloister/cloisterlaw3.WordRuns", spec := "wordRuns", unfollowed := true, recurses := true, apart := false }
def WordRunsSaid : Prop := wordRunsRow.holds Try.pinned (OpenSpec.ofChange wordRunsSpec)

/-- ITS FALSE NEIGHBOUR: 'it returns false'. Refute it at one input. -/
def wordRunsWrong : ChangeSpec := { name := "wordRuns", fn := fun _ => fun
  | [] => { results := [.lit (.bool false)], args := [] }
  | _ => none }
def WordRunsWrongFalsely : Prop := wordRunsRow.holds Try.pinned (OpenSpec.ofChange wordRunsWrong)

/-- 'cloisterlaw3.WordSum': WHATEVER THE INPUT: true; the input reads as it did. -/
def wordSumSpec : ChangeSpec := { name := "wordSum", fn := fun _ => fun
  | [d1, d2] => { results := [.lit (.bool true)], args := [d1, d2] }
  | _ => none }
def wordSumRow : OpenClaim := { program := "ytbjfgcabomgdbaa", sum := "d7adb0bc1d1d3012cfdae6d5f7c1acf97a6f5e2aebab96c5498a7b8e07f9a0a7", func := "cloister/cloisterlaw3.WordSum", spec := "wordSum", unfollowed := true, recurses := true, apart := false }
def WordSumSaid : Prop := wordSumRow.holds Try.pinned (OpenSpec.ofChange wordSumSpec)

/-- ITS FALSE NEIGHBOUR: 'it returns false'. Refute it at one input. -/
def wordSumWrong : ChangeSpec := { name := "wordSum", fn := fun _ => fun
  | [d1, d2] => { results := [.lit (.bool false)], args := [d1, d2] }
  | _ => none }
def WordSumWrongFalsely : Prop := wordSumRow.holds Try.pinned (OpenSpec.ofChange wordSumWrong)

/-- 'cloisterlaw3.WordPlays': WHATEVER THE INPUT: true; the input reads as it did. -/
def wordPlaysSpec : ChangeSpec := { name := "wordPlays", fn := fun _ => fun
  | [d1, d2] => { results := [.lit (.bool true)], args := [d1, d2] }
  | _ => none }
def wordPlaysRow : OpenClaim := { program := "ytbjfgcabomgdbaa", sum := "d7adb0bc1d1d3012cfdae6d5f7c1acf97a6f5e2aebab96c5498a7b8e07f9a0a7", func := "cloister/cloisterlaw3.WordPlays", spec := "wordPlays", unfollowed := true, recurses := true, apart := false }
def WordPlaysSaid : Prop := wordPlaysRow.holds Try.pinned (OpenSpec.ofChange wordPlaysSpec)

/-- ITS FALSE NEIGHBOUR: 'it returns false'. Refute it at one input. -/
def wordPlaysWrong : ChangeSpec := { name := "wordPlays", fn := fun _ => fun
  | [d1, d2] => { results := [.lit (.bool false)], args := [d1, d2] }
  | _ => none }
def WordPlaysWrongFalsely : Prop := wordPlaysRow.holds Try.pinned (OpenSpec.ofChange wordPlaysWrong)

/-- 'cloisterlaw3.WordApart': WHATEVER THE INPUT: true; the input reads as it did. -/
def wordApartSpec : ChangeSpec := { name := "wordApart", fn := fun _ => fun
  | [d1, d2] => { results := [.lit (.bool true)], args := [d1, d2] }
  | _ => none }
def wordApartRow : OpenClaim := { program := "ytbjfgcabomgdbaa", sum := "d7adb0bc1d1d3012cfdae6d5f7c1acf97a6f5e2aebab96c5498a7b8e07f9a0a7", func := "cloister/cloisterlaw3.WordApart", spec := "wordApart", unfollowed := true, recurses := true, apart := false }
def WordApartSaid : Prop := wordApartRow.holds Try.pinned (OpenSpec.ofChange wordApartSpec)

/-- ITS FALSE NEIGHBOUR: 'it returns false'. Refute it at one input. -/
def wordApartWrong : ChangeSpec := { name := "wordApart", fn := fun _ => fun
  | [d1, d2] => { results := [.lit (.bool false)], args := [d1, d2] }
  | _ => none }
def WordApartWrongFalsely : Prop := wordApartRow.holds Try.pinned (OpenSpec.ofChange wordApartWrong)

/- THE SECOND FORM. 'bulk': how many values and letters a reading holds, each counted each time it is reached (what is shared counts as often as it is met; a slice's spare places count too). A statement '..UptoSaid' is the law's where the arguments, and the package variables that the reading takes, are together of bulk at most 1048576: NARROWER than '..Said'. Prove '..Said' where nothing that the law and all that it calls make is longer than what came in: it says more and counts as full. Else prove '..UptoSaid'. A law counts once. -/
mutual
def uptoBulk {H : Type} : DataW H → Nat
  | .lit (.string bytes) => bytes.length + 1
  | .lit _ => 1
  | .nil => 1
  | .ptr d => uptoBulk d + 1
  | .slice elems spare => uptoBulkAll elems + uptoBulkAll spare + 1
  | .agg parts => uptoBulkAll parts + 1
  | .iface _ d => uptoBulk d + 1
  | .map entries => uptoBulkEntries entries + 1
  | .held _ => 1
def uptoBulkAll {H : Type} : List (DataW H) → Nat
  | [] => 0
  | d :: r => uptoBulk d + uptoBulkAll r
def uptoBulkEntries {H : Type} : List (Lit × DataW H) → Nat
  | [] => 0
  | x :: r => uptoBulkEntry x + uptoBulkEntries r
def uptoBulkEntry {H : Type} : Lit × DataW H → Nat
  | (.string bytes, d) => bytes.length + uptoBulk d + 1
  | (_, d) => uptoBulk d + 1
 end
def uptoSmall : (H : Type) → List (DataW H) → Bool := fun _ ds => decide (uptoBulkAll ds ≤ 1048576)
def OpenSpec.upto (s : _root_.Go.ChangeSpec) : _root_.Go.OpenSpec := { _root_.Go.OpenSpec.ofChange s with cond := some uptoSmall }

/-- 'cloisterlaw2.HaltRuns', WHERE WHAT IT READS IS OF BULK AT MOST 1048576: true; the input reads as it did. -/
def haltRunsUptoRow : OpenClaim := { program := "ytbjfgcabomgdbaa", sum := "d7adb0bc1d1d3012cfdae6d5f7c1acf97a6f5e2aebab96c5498a7b8e07f9a0a7", func := "cloister/cloisterlaw2.HaltRuns", spec := "haltRuns", unfollowed := true, recurses := true, apart := false, narrowed := true }
def HaltRunsUptoSaid : Prop := haltRunsUptoRow.holds Try.pinned (OpenSpec.upto haltRunsSpec)

/-- 'cloisterlaw2.HaltRows', WHERE WHAT IT READS IS OF BULK AT MOST 1048576: true; the input reads as it did. -/
def haltRowsUptoRow : OpenClaim := { program := "ytbjfgcabomgdbaa", sum := "d7adb0bc1d1d3012cfdae6d5f7c1acf97a6f5e2aebab96c5498a7b8e07f9a0a7", func := "cloister/cloisterlaw2.HaltRows", spec := "haltRows", unfollowed := true, recurses := true, apart := false, narrowed := true }
def HaltRowsUptoSaid : Prop := haltRowsUptoRow.holds Try.pinned (OpenSpec.upto haltRowsSpec)

/-- 'cloisterlaw2.HaltDeep', WHERE WHAT IT READS IS OF BULK AT MOST 1048576: true; the input reads as it did. -/
def haltDeepUptoRow : OpenClaim := { program := "ytbjfgcabomgdbaa", sum := "d7adb0bc1d1d3012cfdae6d5f7c1acf97a6f5e2aebab96c5498a7b8e07f9a0a7", func := "cloister/cloisterlaw2.HaltDeep", spec := "haltDeep", unfollowed := true, recurses := true, apart := false, narrowed := true }
def HaltDeepUptoSaid : Prop := haltDeepUptoRow.holds Try.pinned (OpenSpec.upto haltDeepSpec)

/-- 'cloisterlaw2.HaltNest', WHERE WHAT IT READS IS OF BULK AT MOST 1048576: true; the input reads as it did. -/
def haltNestUptoRow : OpenClaim := { program := "ytbjfgcabomgdbaa", sum := "d7adb0bc1d1d3012cfdae6d5f7c1acf97a6f5e2aebab96c5498a7b8e07f9a0a7", func := "cloister/cloisterlaw2.HaltNest", spec := "haltNest", unfollowed := true, recurses := true, apart := false, narrowed := true }
def HaltNestUptoSaid : Prop := haltNestUptoRow.holds Try.pinned (OpenSpec.upto haltNestSpec)

/-- 'cloisterlaw2.HaltAfter', WHERE WHAT IT READS IS OF BULK AT MOST 1048576: true; the input reads as it did. -/
def haltAfterUptoRow : OpenClaim := { program := "ytbjfgcabomgdbaa", sum := "d7adb0bc1d1d3012cfdae6d5f7c1acf97a6f5e2aebab96c5498a7b8e07f9a0a7", func := "cloister/cloisterlaw2.HaltAfter", spec := "haltAfter", unfollowed := true, recurses := true, apart := false, narrowed := true }
def HaltAfterUptoSaid : Prop := haltAfterUptoRow.holds Try.pinned (OpenSpec.upto haltAfterSpec)

/-- 'cloisterlaw3.WordRuns', WHERE WHAT IT READS IS OF BULK AT MOST 1048576: true; the input reads as it did. -/
def wordRunsUptoRow : OpenClaim := { program := "ytbjfgcabomgdbaa", sum := "d7adb0bc1d1d3012cfdae6d5f7c1acf97a6f5e2aebab96c5498a7b8e07f9a0a7", func := "cloister/cloisterlaw3.WordRuns", spec := "wordRuns", unfollowed := true, recurses := true, apart := false, narrowed := true }
def WordRunsUptoSaid : Prop := wordRunsUptoRow.holds Try.pinned (OpenSpec.upto wordRunsSpec)

/-- 'cloisterlaw3.WordSum', WHERE WHAT IT READS IS OF BULK AT MOST 1048576: true; the input reads as it did. -/
def wordSumUptoRow : OpenClaim := { program := "ytbjfgcabomgdbaa", sum := "d7adb0bc1d1d3012cfdae6d5f7c1acf97a6f5e2aebab96c5498a7b8e07f9a0a7", func := "cloister/cloisterlaw3.WordSum", spec := "wordSum", unfollowed := true, recurses := true, apart := false, narrowed := true }
def WordSumUptoSaid : Prop := wordSumUptoRow.holds Try.pinned (OpenSpec.upto wordSumSpec)

/-- 'cloisterlaw3.WordPlays', WHERE WHAT IT READS IS OF BULK AT MOST 1048576: true; the input reads as it did. -/
def wordPlaysUptoRow : OpenClaim := { program := "ytbjfgcabomgdbaa", sum := "d7adb0bc1d1d3012cfdae6d5f7c1acf97a6f5e2aebab96c5498a7b8e07f9a0a7", func := "cloister/cloisterlaw3.WordPlays", spec := "wordPlays", unfollowed := true, recurses := true, apart := false, narrowed := true }
def WordPlaysUptoSaid : Prop := wordPlaysUptoRow.holds Try.pinned (OpenSpec.upto wordPlaysSpec)

/-- 'cloisterlaw3.WordApart', WHERE WHAT IT READS IS OF BULK AT MOST 1048576: true; the input reads as it did. -/
def wordApartUptoRow : OpenClaim := { program := "ytbjfgcabomgdbaa", sum := "d7adb0bc1d1d3012cfdae6d5f7c1acf97a6f5e2aebab96c5498a7b8e07f9a0a7", func := "cloister/cloisterlaw3.WordApart", spec := "wordApart", unfollowed := true, recurses := true, apart := false, narrowed := true }
def WordApartUptoSaid : Prop := wordApartUptoRow.holds Try.pinned (OpenSpec.upto wordApartSpec)

end Rows
end Go.Proofs.Ytbjfgcabomgdbaa
