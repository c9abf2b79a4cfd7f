/-
  No cell of these rows narrows 'for every input' (looked for: loops, veiled, ifaces, maps, wideKeys, modest, calm, conditions, laid).
  DERIVED. THE GIVEN ROWS OF THIS SEAT. 9 by the template 'for every input the law returns true; each argument reads behind the call as it read before'; 0 by the template 'total and deterministic' (their statements: YtoifefcbegdjdaaTotals.lean).
  GIVEN WITH THE SEED: the statements are not yours to turn. If you find one false, say at which input.
  Laid BY PROGRAM, IN A SANDBOX (cutbox-rows.mjs): the forced cells as the released guide's own fill.sh prints them over the translation feb07cd47a292fdf… (all of the seat's roots in one cut). By AI agents, Wed Nov 11 2026. No macro, syntax, notation, axiom, sorry.
-/
import Derived.Test.YtoifefcbegdjdaaChecked
import GoSem.Claim
import GoSem.ClaimJoined
import GoSem.ClaimMapViews
import Derived.JoinedTies
import Derived.KernelRfl
namespace Go.Proofs.Ytoifefcbegdjdaa
/- THE CELL 'sum', in the pinned program and in every row, IS THE sha256 OF THE DUMP (.gsa) THAT YtoifefcbegdjdaaProg.lean LOADS. Nothing in Lean hashes anything: it is a label: what it is worth is what the hold of that sum in a sandbox is worth. -/
noncomputable def Try.pinned : Pinned := { name := "ytoifefcbegdjdaa", sum := "feb07cd47a292fdfcc358f095d44200ce07d7565859fea5c0fc677d7ceb364dd", checked := Try.checked }
namespace Rows
def none {H : Type} : Left H := { results := [], args := [] }

/-- 'cloisterlaw2.HaltAfter': WHATEVER THE INPUT: true; the input reads as it did. -/
def haltAfterSpec : ChangeSpec := { name := "haltAfter", fn := fun _ => fun
  | [d1, d2, d3] => { results := [.lit (.bool true)], args := [d1, d2, d3] }
  | _ => none }
def haltAfterRow : OpenClaim := { program := "ytoifefcbegdjdaa", sum := "feb07cd47a292fdfcc358f095d44200ce07d7565859fea5c0fc677d7ceb364dd", func := "cloister/cloisterlaw2.HaltAfter", spec := "haltAfter", unfollowed := true, recurses := true, apart := false }
def HaltAfterSaid : Prop := haltAfterRow.holds Try.pinned (OpenSpec.ofChange haltAfterSpec)

/-- ITS FALSE NEIGHBOUR: 'it returns false'. Refute it at one input. -/
def haltAfterWrong : ChangeSpec := { name := "haltAfter", fn := fun _ => fun
  | [d1, d2, d3] => { results := [.lit (.bool false)], args := [d1, d2, d3] }
  | _ => none }
def HaltAfterWrongFalsely : Prop := haltAfterRow.holds Try.pinned (OpenSpec.ofChange haltAfterWrong)

/-- 'cloisterlaw6.RankRuns': WHATEVER THE INPUT: true; the input reads as it did. -/
def rankRunsSpec : ChangeSpec := { name := "rankRuns", fn := fun _ => fun
  | [] => { results := [.lit (.bool true)], args := [] }
  | _ => none }
def rankRunsRow : OpenClaim := { program := "ytoifefcbegdjdaa", sum := "feb07cd47a292fdfcc358f095d44200ce07d7565859fea5c0fc677d7ceb364dd", func := "cloister/cloisterlaw6.RankRuns", spec := "rankRuns", unfollowed := true, recurses := true, apart := false }
def RankRunsSaid : Prop := rankRunsRow.holds Try.pinned (OpenSpec.ofChange rankRunsSpec)

/-- ITS FALSE NEIGHBOUR: 'it returns false'. Refute it at one input. -/
def rankRunsWrong : ChangeSpec := { name := "rankRuns", fn := fun _ => fun
  | [] => { results := [.lit (.bool false)], args := [] }
  | _ => none }
def RankRunsWrongFalsely : Prop := rankRunsRow.holds Try.pinned (OpenSpec.ofChange rankRunsWrong)

/-- 'cloisterlaw6.RankCircle': WHATEVER THE INPUT: true; the input reads as it did. -/
def rankCircleSpec : ChangeSpec := { name := "rankCircle", fn := fun _ => fun
  | [d1, d2, d3] => { results := [.lit (.bool true)], args := [d1, d2, d3] }
  | _ => none }
def rankCircleRow : OpenClaim := { program := "ytoifefcbegdjdaa", sum := "feb07cd47a292fdfcc358f095d44200ce07d7565859fea5c0fc677d7ceb364dd", func := "cloister/cloisterlaw6.RankCircle", spec := "rankCircle", unfollowed := true, recurses := true, apart := false }
def RankCircleSaid : Prop := rankCircleRow.holds Try.pinned (OpenSpec.ofChange rankCircleSpec)

/-- ITS FALSE NEIGHBOUR: 'it returns false'. Refute it at one input. -/
def rankCircleWrong : ChangeSpec := { name := "rankCircle", fn := fun _ => fun
  | [d1, d2, d3] => { results := [.lit (.bool false)], args := [d1, d2, d3] }
  | _ => none }
def RankCircleWrongFalsely : Prop := rankCircleRow.holds Try.pinned (OpenSpec.ofChange rankCircleWrong)

/-- 'cloisterlaw6.RankPlays': WHATEVER THE INPUT: true; the input reads as it did. -/
def rankPlaysSpec : ChangeSpec := { name := "rankPlays", fn := fun _ => fun
  | [d1, d2] => { results := [.lit (.bool true)], args := [d1, d2] }
  | _ => none }
def rankPlaysRow : OpenClaim := { program := "ytoifefcbegdjdaa", sum := "feb07cd47a292fdfcc358f095d44200ce07d7565859fea5c0fc677d7ceb364dd", func := "cloister/cloisterlaw6.RankPlays", spec := "rankPlays", unfollowed := true, recurses := true, apart := false }
def RankPlaysSaid : Prop := rankPlaysRow.holds Try.pinned (OpenSpec.ofChange rankPlaysSpec)

/-- ITS FALSE NEIGHBOUR: 'it returns false'. Refute it at one input. -/
def rankPlaysWrong : ChangeSpec := { name := "rankPlays", fn := fun _ => fun
  | [d1, d2] => { results := [.lit (.bool false)], args := [d1, d2] }
  | _ => none }
def RankPlaysWrongFalsely : Prop := rankPlaysRow.holds Try.pinned (OpenSpec.ofChange rankPlaysWrong)

/-- 'cloisterlaw6.RankOwn': WHATEVER THE INPUT: true; the input reads as it did. -/
def rankOwnSpec : ChangeSpec := { name := "rankOwn", fn := fun _ => fun
  | [d1, d2, d3, d4] => { results := [.lit (.bool true)], args := [d1, d2, d3, d4] }
  | _ => none }
def rankOwnRow : OpenClaim := { program := "ytoifefcbegdjdaa", sum := "feb07cd47a292fdfcc358f095d44200ce07d7565859fea5c0fc677d7ceb364dd", func := "cloister/cloisterlaw6.RankOwn", spec := "rankOwn", unfollowed := true, recurses := true, apart := false }
def RankOwnSaid : Prop := rankOwnRow.holds Try.pinned (OpenSpec.ofChange rankOwnSpec)

/-- ITS FALSE NEIGHBOUR: 'it returns false'. Refute it at one input. -/
def rankOwnWrong : ChangeSpec := { name := "rankOwn", fn := fun _ => fun
  | [d1, d2, d3, d4] => { results := [.lit (.bool false)], args := [d1, d2, d3, d4] }
  | _ => none }
def RankOwnWrongFalsely : Prop := rankOwnRow.holds Try.pinned (OpenSpec.ofChange rankOwnWrong)

/-- 'cloisterlaw21.TlbRuns': WHATEVER THE INPUT: true; the input reads as it did. -/
def tlbRunsSpec : ChangeSpec := { name := "tlbRuns", fn := fun _ => fun
  | [] => { results := [.lit (.bool true)], args := [] }
  | _ => none }
def tlbRunsRow : OpenClaim := { program := "ytoifefcbegdjdaa", sum := "feb07cd47a292fdfcc358f095d44200ce07d7565859fea5c0fc677d7ceb364dd", func := "cloister/cloisterlaw21.TlbRuns", spec := "tlbRuns", unfollowed := true, recurses := true, apart := false }
def TlbRunsSaid : Prop := tlbRunsRow.holds Try.pinned (OpenSpec.ofChange tlbRunsSpec)

/-- ITS FALSE NEIGHBOUR: 'it returns false'. Refute it at one input. -/
def tlbRunsWrong : ChangeSpec := { name := "tlbRuns", fn := fun _ => fun
  | [] => { results := [.lit (.bool false)], args := [] }
  | _ => none }
def TlbRunsWrongFalsely : Prop := tlbRunsRow.holds Try.pinned (OpenSpec.ofChange tlbRunsWrong)

/-- 'cloisterlaw21.TlbShot': WHATEVER THE INPUT: true; the input reads as it did. -/
def tlbShotSpec : ChangeSpec := { name := "tlbShot", fn := fun _ => fun
  | [d1, d2, d3, d4, d5] => { results := [.lit (.bool true)], args := [d1, d2, d3, d4, d5] }
  | _ => none }
def tlbShotRow : OpenClaim := { program := "ytoifefcbegdjdaa", sum := "feb07cd47a292fdfcc358f095d44200ce07d7565859fea5c0fc677d7ceb364dd", func := "cloister/cloisterlaw21.TlbShot", spec := "tlbShot", unfollowed := true, recurses := true, apart := false }
def TlbShotSaid : Prop := tlbShotRow.holds Try.pinned (OpenSpec.ofChange tlbShotSpec)

/-- ITS FALSE NEIGHBOUR: 'it returns false'. Refute it at one input. -/
def tlbShotWrong : ChangeSpec := { name := "tlbShot", fn := fun _ => fun
  | [d1, d2, d3, d4, d5] => { results := [.lit (.bool false)], args := [d1, d2, d3, d4, d5] }
  | _ => none }
def TlbShotWrongFalsely : Prop := tlbShotRow.holds Try.pinned (OpenSpec.ofChange tlbShotWrong)

/-- 'cloisterlaw21.TlbEldest': WHATEVER THE INPUT: true; the input reads as it did. -/
def tlbEldestSpec : ChangeSpec := { name := "tlbEldest", fn := fun _ => fun
  | [d1, d2, d3] => { results := [.lit (.bool true)], args := [d1, d2, d3] }
  | _ => none }
def tlbEldestRow : OpenClaim := { program := "ytoifefcbegdjdaa", sum := "feb07cd47a292fdfcc358f095d44200ce07d7565859fea5c0fc677d7ceb364dd", func := "cloister/cloisterlaw21.TlbEldest", spec := "tlbEldest", unfollowed := true, recurses := true, apart := false }
def TlbEldestSaid : Prop := tlbEldestRow.holds Try.pinned (OpenSpec.ofChange tlbEldestSpec)

/-- ITS FALSE NEIGHBOUR: 'it returns false'. Refute it at one input. -/
def tlbEldestWrong : ChangeSpec := { name := "tlbEldest", fn := fun _ => fun
  | [d1, d2, d3] => { results := [.lit (.bool false)], args := [d1, d2, d3] }
  | _ => none }
def TlbEldestWrongFalsely : Prop := tlbEldestRow.holds Try.pinned (OpenSpec.ofChange tlbEldestWrong)

/-- 'cloisterlaw21.TlbPlays': WHATEVER THE INPUT: true; the input reads as it did. -/
def tlbPlaysSpec : ChangeSpec := { name := "tlbPlays", fn := fun _ => fun
  | [d1, d2] => { results := [.lit (.bool true)], args := [d1, d2] }
  | _ => none }
def tlbPlaysRow : OpenClaim := { program := "ytoifefcbegdjdaa", sum := "feb07cd47a292fdfcc358f095d44200ce07d7565859fea5c0fc677d7ceb364dd", func := "cloister/cloisterlaw21.TlbPlays", spec := "tlbPlays", unfollowed := true, recurses := true, apart := false }
def TlbPlaysSaid : Prop := tlbPlaysRow.holds Try.pinned (OpenSpec.ofChange tlbPlaysSpec)

/-- ITS FALSE NEIGHBOUR: 'it returns false'. Refute it at one input. -/
def tlbPlaysWrong : ChangeSpec := { name := "tlbPlays", fn := fun _ => fun
  | [d1, d2] => { results := [.lit (.bool false)], args := [d1, d2] }
  | _ => none }
def TlbPlaysWrongFalsely : Prop := tlbPlaysRow.holds Try.pinned (OpenSpec.ofChange tlbPlaysWrong)

/- THE SECOND FORM. 'bulk': how many values and letters a reading holds, each counted each time it is reached (what is shared counts as often as it is met; a slice's spare places count too). A statement '..UptoSaid' is the law's where the arguments, and the package variables that the reading takes, are together of bulk at most 1048576: NARROWER than '..Said'. Prove '..Said' where nothing that the law and all that it calls make is longer than what came in: it says more and counts as full. Else prove '..UptoSaid'. A law counts once. -/
mutual
def uptoBulk {H : Type} : DataW H → Nat
  | .lit (.string bytes) => bytes.length + 1
  | .lit _ => 1
  | .nil => 1
  | .ptr d => uptoBulk d + 1
  | .slice elems spare => uptoBulkAll elems + uptoBulkAll spare + 1
  | .agg parts => uptoBulkAll parts + 1
  | .iface _ d => uptoBulk d + 1
  | .map entries => uptoBulkEntries entries + 1
  | .held _ => 1
def uptoBulkAll {H : Type} : List (DataW H) → Nat
  | [] => 0
  | d :: r => uptoBulk d + uptoBulkAll r
def uptoBulkEntries {H : Type} : List (Lit × DataW H) → Nat
  | [] => 0
  | x :: r => uptoBulkEntry x + uptoBulkEntries r
def uptoBulkEntry {H : Type} : Lit × DataW H → Nat
  | (.string bytes, d) => bytes.length + uptoBulk d + 1
  | (_, d) => uptoBulk d + 1
 end
def uptoSmall : (H : Type) → List (DataW H) → Bool := fun _ ds => decide (uptoBulkAll ds ≤ 1048576)
def OpenSpec.upto (s : _root_.Go.ChangeSpec) : _root_.Go.OpenSpec := { _root_.Go.OpenSpec.ofChange s with cond := some uptoSmall }

/-- 'cloisterlaw2.HaltAfter', WHERE WHAT IT READS IS OF BULK AT MOST 1048576: true; the input reads as it did. -/
def haltAfterUptoRow : OpenClaim := { program := "ytoifefcbegdjdaa", sum := "feb07cd47a292fdfcc358f095d44200ce07d7565859fea5c0fc677d7ceb364dd", func := "cloister/cloisterlaw2.HaltAfter", spec := "haltAfter", unfollowed := true, recurses := true, apart := false, narrowed := true }
def HaltAfterUptoSaid : Prop := haltAfterUptoRow.holds Try.pinned (OpenSpec.upto haltAfterSpec)

/-- 'cloisterlaw6.RankRuns', WHERE WHAT IT READS IS OF BULK AT MOST 1048576: true; the input reads as it did. -/
def rankRunsUptoRow : OpenClaim := { program := "ytoifefcbegdjdaa", sum := "feb07cd47a292fdfcc358f095d44200ce07d7565859fea5c0fc677d7ceb364dd", func := "cloister/cloisterlaw6.RankRuns", spec := "rankRuns", unfollowed := true, recurses := true, apart := false, narrowed := true }
def RankRunsUptoSaid : Prop := rankRunsUptoRow.holds Try.pinned (OpenSpec.upto rankRunsSpec)

/-- 'cloisterlaw6.RankCircle', WHERE WHAT IT READS IS OF BULK AT MOST 1048576: true; the input reads as it did. -/
def rankCircleUptoRow : OpenClaim := { program := "ytoifefcbegdjdaa", sum := "feb07cd47a292fdfcc358f095d44200ce07d7565859fea5c0fc677d7ceb364dd", func := "cloister/cloisterlaw6.RankCircle", spec := "rankCircle", unfollowed := true, recurses := true, apart := false, narrowed := true }
def RankCircleUptoSaid : Prop := rankCircleUptoRow.holds Try.pinned (OpenSpec.upto rankCircleSpec)

/-- 'cloisterlaw6.RankPlays', WHERE WHAT IT READS IS OF BULK AT MOST 1048576: true; the input reads as it did. -/
def rankPlaysUptoRow : OpenClaim := { program := "ytoifefcbegdjdaa", sum := "feb07cd47a292fdfcc358f095d44200ce07d7565859fea5c0fc677d7ceb364dd", func := "cloister/cloisterlaw6.RankPlays", spec := "rankPlays", unfollowed := true, recurses := true, apart := false, narrowed := true }
def RankPlaysUptoSaid : Prop := rankPlaysUptoRow.holds Try.pinned (OpenSpec.upto rankPlaysSpec)

/-- 'cloisterlaw6.RankOwn', WHERE WHAT IT READS IS OF BULK AT MOST 1048576: true; the input reads as it did. -/
def rankOwnUptoRow : OpenClaim := { program := "ytoifefcbegdjdaa", sum := "feb07cd47a292fdfcc358f095d44200ce07d7565859fea5c0fc677d7ceb364dd", func := "cloister/cloisterlaw6.RankOwn", spec := "rankOwn", unfollowed := true, recurses := true, apart := false, narrowed := true }
def RankOwnUptoSaid : Prop := rankOwnUptoRow.holds Try.pinned (OpenSpec.upto rankOwnSpec)

/-- 'cloisterlaw21.TlbRuns', WHERE WHAT IT READS IS OF BULK AT MOST 1048576: true; the input reads as it did. -/
def tlbRunsUptoRow : OpenClaim := { program := "ytoifefcbegdjdaa", sum := "feb07cd47a292fdfcc358f095d44200ce07d7565859fea5c0fc677d7ceb364dd", func := "cloister/cloisterlaw21.TlbRuns", spec := "tlbRuns", unfollowed := true, recurses := true, apart := false, narrowed := true }
def TlbRunsUptoSaid : Prop := tlbRunsUptoRow.holds Try.pinned (OpenSpec.upto tlbRunsSpec)

/-- 'cloisterlaw21.TlbShot', WHERE WHAT IT READS IS OF BULK AT MOST 1048576: true; the input reads as it did. -/
def tlbShotUptoRow : OpenClaim := { program := "ytoifefcbegdjdaa", sum := "feb07cd47a292fdfcc358f095d44200ce07d7565859fea5c0fc677d7ceb364dd", func := "cloister/cloisterlaw21.TlbShot", spec := "tlbShot", unfollowed := true, recurses := true, apart := false, narrowed := true }
def TlbShotUptoSaid : Prop := tlbShotUptoRow.holds Try.pinned (OpenSpec.upto tlbShotSpec)

/-- 'cloisterlaw21.TlbEldest', WHERE WHAT IT READS IS OF BULK AT MOST 1048576: true; the input reads as it did. -/
def tlbEldestUptoRow : OpenClaim := { program := "ytoifefcbegdjdaa", sum := "feb07cd47a292fdfcc358f095d44200ce07d7565859fea5c0fc677d7ceb364dd", func := "cloister/cloisterlaw21.TlbEldest", spec := "tlbEldest", unfollowed := true, recurses := true, apart := false, narrowed := true }
def TlbEldestUptoSaid : Prop := tlbEldestUptoRow.holds Try.pinned (OpenSpec.upto tlbEldestSpec)

/-- 'cloisterlaw21.TlbPlays', WHERE WHAT IT READS IS OF BULK AT MOST 1048576: true; the input reads as it did. -/
def tlbPlaysUptoRow : OpenClaim := { program := "ytoifefcbegdjdaa", sum := "feb07cd47a292fdfcc358f095d44200ce07d7565859fea5c0fc677d7ceb364dd", func := "cloister/cloisterlaw21.TlbPlays", spec := "tlbPlays", unfollowed := true, recurses := true, apart := false, narrowed := true }
def TlbPlaysUptoSaid : Prop := tlbPlaysUptoRow.holds Try.pinned (OpenSpec.upto tlbPlaysSpec)

end Rows
end Go.Proofs.Ytoifefcbegdjdaa
