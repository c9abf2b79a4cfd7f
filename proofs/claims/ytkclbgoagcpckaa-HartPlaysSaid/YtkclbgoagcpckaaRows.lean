/-
  No cell of these rows narrows 'for every input' (looked for: loops, veiled, ifaces, maps, wideKeys, modest, calm, conditions, laid).
  DERIVED. THE GIVEN ROWS OF THIS SEAT. 9 by the template 'for every input the law returns true; each argument reads behind the call as it read before'; 0 by the template 'total and deterministic' (their statements: YtkclbgoagcpckaaTotals.lean).
  GIVEN WITH THE SEED: the statements are not yours to turn. If you find one false, say at which input.
  Laid BY PROGRAM, IN A SANDBOX (cutbox-rows.mjs): the forced cells as the released guide's own fill.sh prints them over the translation c632875356a76145… (all of the seat's roots in one cut). By AI agents, Wed Nov 11 2026. No macro, syntax, notation, axiom, sorry.
-/
import Derived.Test.YtkclbgoagcpckaaChecked
import GoSem.Claim
import GoSem.ClaimJoined
import GoSem.ClaimMapViews
import Derived.JoinedTies
import Derived.KernelRfl
namespace Go.Proofs.Ytkclbgoagcpckaa
/- THE CELL 'sum', in the pinned program and in every row, IS THE sha256 OF THE DUMP (.gsa) THAT YtkclbgoagcpckaaProg.lean LOADS. Nothing in Lean hashes anything: it is a label: what it is worth is what the hold of that sum in a sandbox is worth. -/
noncomputable def Try.pinned : Pinned := { name := "ytkclbgoagcpckaa", sum := "c632875356a761452a9e25a7e369e291c4bc5d2b4cc9b3d6b06edb2fd7e1de4b", checked := Try.checked }
namespace Rows
def none {H : Type} : Left H := { results := [], args := [] }

/-- 'cloisterlaw5.TicketRuns': WHATEVER THE INPUT: true; the input reads as it did. -/
def ticketRunsSpec : ChangeSpec := { name := "ticketRuns", fn := fun _ => fun
  | [] => { results := [.lit (.bool true)], args := [] }
  | _ => none }
def ticketRunsRow : OpenClaim := { program := "ytkclbgoagcpckaa", sum := "c632875356a761452a9e25a7e369e291c4bc5d2b4cc9b3d6b06edb2fd7e1de4b", func := "cloister/cloisterlaw5.TicketRuns", spec := "ticketRuns", apart := false }
def TicketRunsSaid : Prop := ticketRunsRow.holds Try.pinned (OpenSpec.ofChange ticketRunsSpec)

/-- ITS FALSE NEIGHBOUR: 'it returns false'. Refute it at one input. -/
def ticketRunsWrong : ChangeSpec := { name := "ticketRuns", fn := fun _ => fun
  | [] => { results := [.lit (.bool false)], args := [] }
  | _ => none }
def TicketRunsWrongFalsely : Prop := ticketRunsRow.holds Try.pinned (OpenSpec.ofChange ticketRunsWrong)

/-- 'cloisterlaw5.TicketOne': WHATEVER THE INPUT: true; the input reads as it did. -/
def ticketOneSpec : ChangeSpec := { name := "ticketOne", fn := fun _ => fun
  | [d1, d2] => { results := [.lit (.bool true)], args := [d1, d2] }
  | _ => none }
def ticketOneRow : OpenClaim := { program := "ytkclbgoagcpckaa", sum := "c632875356a761452a9e25a7e369e291c4bc5d2b4cc9b3d6b06edb2fd7e1de4b", func := "cloister/cloisterlaw5.TicketOne", spec := "ticketOne", apart := false }
def TicketOneSaid : Prop := ticketOneRow.holds Try.pinned (OpenSpec.ofChange ticketOneSpec)

/-- ITS FALSE NEIGHBOUR: 'it returns false'. Refute it at one input. -/
def ticketOneWrong : ChangeSpec := { name := "ticketOne", fn := fun _ => fun
  | [d1, d2] => { results := [.lit (.bool false)], args := [d1, d2] }
  | _ => none }
def TicketOneWrongFalsely : Prop := ticketOneRow.holds Try.pinned (OpenSpec.ofChange ticketOneWrong)

/-- 'cloisterlaw5.TicketTurn': WHATEVER THE INPUT: true; the input reads as it did. -/
def ticketTurnSpec : ChangeSpec := { name := "ticketTurn", fn := fun _ => fun
  | [d1, d2] => { results := [.lit (.bool true)], args := [d1, d2] }
  | _ => none }
def ticketTurnRow : OpenClaim := { program := "ytkclbgoagcpckaa", sum := "c632875356a761452a9e25a7e369e291c4bc5d2b4cc9b3d6b06edb2fd7e1de4b", func := "cloister/cloisterlaw5.TicketTurn", spec := "ticketTurn", apart := false }
def TicketTurnSaid : Prop := ticketTurnRow.holds Try.pinned (OpenSpec.ofChange ticketTurnSpec)

/-- ITS FALSE NEIGHBOUR: 'it returns false'. Refute it at one input. -/
def ticketTurnWrong : ChangeSpec := { name := "ticketTurn", fn := fun _ => fun
  | [d1, d2] => { results := [.lit (.bool false)], args := [d1, d2] }
  | _ => none }
def TicketTurnWrongFalsely : Prop := ticketTurnRow.holds Try.pinned (OpenSpec.ofChange ticketTurnWrong)

/-- 'cloisterlaw5.TicketWait': WHATEVER THE INPUT: true; the input reads as it did. -/
def ticketWaitSpec : ChangeSpec := { name := "ticketWait", fn := fun _ => fun
  | [d1, d2, d3] => { results := [.lit (.bool true)], args := [d1, d2, d3] }
  | _ => none }
def ticketWaitRow : OpenClaim := { program := "ytkclbgoagcpckaa", sum := "c632875356a761452a9e25a7e369e291c4bc5d2b4cc9b3d6b06edb2fd7e1de4b", func := "cloister/cloisterlaw5.TicketWait", spec := "ticketWait", apart := false }
def TicketWaitSaid : Prop := ticketWaitRow.holds Try.pinned (OpenSpec.ofChange ticketWaitSpec)

/-- ITS FALSE NEIGHBOUR: 'it returns false'. Refute it at one input. -/
def ticketWaitWrong : ChangeSpec := { name := "ticketWait", fn := fun _ => fun
  | [d1, d2, d3] => { results := [.lit (.bool false)], args := [d1, d2, d3] }
  | _ => none }
def TicketWaitWrongFalsely : Prop := ticketWaitRow.holds Try.pinned (OpenSpec.ofChange ticketWaitWrong)

/-- 'cloisterlaw5.TicketPlays': WHATEVER THE INPUT: true; the input reads as it did. -/
def ticketPlaysSpec : ChangeSpec := { name := "ticketPlays", fn := fun _ => fun
  | [d1, d2] => { results := [.lit (.bool true)], args := [d1, d2] }
  | _ => none }
def ticketPlaysRow : OpenClaim := { program := "ytkclbgoagcpckaa", sum := "c632875356a761452a9e25a7e369e291c4bc5d2b4cc9b3d6b06edb2fd7e1de4b", func := "cloister/cloisterlaw5.TicketPlays", spec := "ticketPlays", unfollowed := true, recurses := true, apart := false }
def TicketPlaysSaid : Prop := ticketPlaysRow.holds Try.pinned (OpenSpec.ofChange ticketPlaysSpec)

/-- ITS FALSE NEIGHBOUR: 'it returns false'. Refute it at one input. -/
def ticketPlaysWrong : ChangeSpec := { name := "ticketPlays", fn := fun _ => fun
  | [d1, d2] => { results := [.lit (.bool false)], args := [d1, d2] }
  | _ => none }
def TicketPlaysWrongFalsely : Prop := ticketPlaysRow.holds Try.pinned (OpenSpec.ofChange ticketPlaysWrong)

/-- 'cloisterlaw4.HartRuns': WHATEVER THE INPUT: true; the input reads as it did. -/
def hartRunsSpec : ChangeSpec := { name := "hartRuns", fn := fun _ => fun
  | [] => { results := [.lit (.bool true)], args := [] }
  | _ => none }
def hartRunsRow : OpenClaim := { program := "ytkclbgoagcpckaa", sum := "c632875356a761452a9e25a7e369e291c4bc5d2b4cc9b3d6b06edb2fd7e1de4b", func := "cloister/cloisterlaw4.HartRuns", spec := "hartRuns", unfollowed := true, recurses := true, apart := false }
def HartRunsSaid : Prop := hartRunsRow.holds Try.pinned (OpenSpec.ofChange hartRunsSpec)

/-- ITS FALSE NEIGHBOUR: 'it returns false'. Refute it at one input. -/
def hartRunsWrong : ChangeSpec := { name := "hartRuns", fn := fun _ => fun
  | [] => { results := [.lit (.bool false)], args := [] }
  | _ => none }
def HartRunsWrongFalsely : Prop := hartRunsRow.holds Try.pinned (OpenSpec.ofChange hartRunsWrong)

/-- 'cloisterlaw4.HartNests': WHATEVER THE INPUT: true; the input reads as it did. -/
def hartNestsSpec : ChangeSpec := { name := "hartNests", fn := fun _ => fun
  | [d1, d2, d3, d4] => { results := [.lit (.bool true)], args := [d1, d2, d3, d4] }
  | _ => none }
def hartNestsRow : OpenClaim := { program := "ytkclbgoagcpckaa", sum := "c632875356a761452a9e25a7e369e291c4bc5d2b4cc9b3d6b06edb2fd7e1de4b", func := "cloister/cloisterlaw4.HartNests", spec := "hartNests", unfollowed := true, recurses := true, apart := false }
def HartNestsSaid : Prop := hartNestsRow.holds Try.pinned (OpenSpec.ofChange hartNestsSpec)

/-- ITS FALSE NEIGHBOUR: 'it returns false'. Refute it at one input. -/
def hartNestsWrong : ChangeSpec := { name := "hartNests", fn := fun _ => fun
  | [d1, d2, d3, d4] => { results := [.lit (.bool false)], args := [d1, d2, d3, d4] }
  | _ => none }
def HartNestsWrongFalsely : Prop := hartNestsRow.holds Try.pinned (OpenSpec.ofChange hartNestsWrong)

/-- 'cloisterlaw4.HartMail': WHATEVER THE INPUT: true; the input reads as it did. -/
def hartMailSpec : ChangeSpec := { name := "hartMail", fn := fun _ => fun
  | [d1, d2, d3, d4] => { results := [.lit (.bool true)], args := [d1, d2, d3, d4] }
  | _ => none }
def hartMailRow : OpenClaim := { program := "ytkclbgoagcpckaa", sum := "c632875356a761452a9e25a7e369e291c4bc5d2b4cc9b3d6b06edb2fd7e1de4b", func := "cloister/cloisterlaw4.HartMail", spec := "hartMail", unfollowed := true, recurses := true, apart := false }
def HartMailSaid : Prop := hartMailRow.holds Try.pinned (OpenSpec.ofChange hartMailSpec)

/-- ITS FALSE NEIGHBOUR: 'it returns false'. Refute it at one input. -/
def hartMailWrong : ChangeSpec := { name := "hartMail", fn := fun _ => fun
  | [d1, d2, d3, d4] => { results := [.lit (.bool false)], args := [d1, d2, d3, d4] }
  | _ => none }
def HartMailWrongFalsely : Prop := hartMailRow.holds Try.pinned (OpenSpec.ofChange hartMailWrong)

/-- 'cloisterlaw4.HartPlays': WHATEVER THE INPUT: true; the input reads as it did. -/
def hartPlaysSpec : ChangeSpec := { name := "hartPlays", fn := fun _ => fun
  | [d1, d2] => { results := [.lit (.bool true)], args := [d1, d2] }
  | _ => none }
def hartPlaysRow : OpenClaim := { program := "ytkclbgoagcpckaa", sum := "c632875356a761452a9e25a7e369e291c4bc5d2b4cc9b3d6b06edb2fd7e1de4b", func := "cloister/cloisterlaw4.HartPlays", spec := "hartPlays", unfollowed := true, recurses := true, apart := false }
def HartPlaysSaid : Prop := hartPlaysRow.holds Try.pinned (OpenSpec.ofChange hartPlaysSpec)

/-- ITS FALSE NEIGHBOUR: 'it returns false'. Refute it at one input. -/
def hartPlaysWrong : ChangeSpec := { name := "hartPlays", fn := fun _ => fun
  | [d1, d2] => { results := [.lit (.bool false)], args := [d1, d2] }
  | _ => none }
def HartPlaysWrongFalsely : Prop := hartPlaysRow.holds Try.pinned (OpenSpec.ofChange hartPlaysWrong)

/- THE SECOND FORM. 'bulk': how many values and letters a reading holds, each counted each time it is reached (what is shared counts as often as it is met; a slice's spare places count too). A statement '..UptoSaid' is the law's where the arguments, and the package variables that the reading takes, are together of bulk at most 1048576: NARROWER than '..Said'. Prove '..Said' where nothing that the law and all that it calls make is longer than what came in: it says more and counts as full. Else prove '..UptoSaid'. A law counts once. -/
mutual
def uptoBulk {H : Type} : DataW H → Nat
  | .lit (.string bytes) => bytes.length + 1
  | .lit _ => 1
  | .nil => 1
  | .ptr d => uptoBulk d + 1
  | .slice elems spare => uptoBulkAll elems + uptoBulkAll spare + 1
  | .agg parts => uptoBulkAll parts + 1
  | .iface _ d => uptoBulk d + 1
  | .map entries => uptoBulkEntries entries + 1
  | .held _ => 1
def uptoBulkAll {H : Type} : List (DataW H) → Nat
  | [] => 0
  | d :: r => uptoBulk d + uptoBulkAll r
def uptoBulkEntries {H : Type} : List (Lit × DataW H) → Nat
  | [] => 0
  | x :: r => uptoBulkEntry x + uptoBulkEntries r
def uptoBulkEntry {H : Type} : Lit × DataW H → Nat
  | (.string bytes, d) => bytes.length + uptoBulk d + 1
  | (_, d) => uptoBulk d + 1
 end
def uptoSmall : (H : Type) → List (DataW H) → Bool := fun _ ds => decide (uptoBulkAll ds ≤ 1048576)
def OpenSpec.upto (s : _root_.Go.ChangeSpec) : _root_.Go.OpenSpec := { _root_.Go.OpenSpec.ofChange s with cond := some uptoSmall }

/-- 'cloisterlaw5.TicketRuns', WHERE WHAT IT READS IS OF BULK AT MOST 1048576: true; the input reads as it did. -/
def ticketRunsUptoRow : OpenClaim := { program := "ytkclbgoagcpckaa", sum := "c632875356a761452a9e25a7e369e291c4bc5d2b4cc9b3d6b06edb2fd7e1de4b", func := "cloister/cloisterlaw5.TicketRuns", spec := "ticketRuns", apart := false, narrowed := true }
def TicketRunsUptoSaid : Prop := ticketRunsUptoRow.holds Try.pinned (OpenSpec.upto ticketRunsSpec)

/-- 'cloisterlaw5.TicketOne', WHERE WHAT IT READS IS OF BULK AT MOST 1048576: true; the input reads as it did. -/
def ticketOneUptoRow : OpenClaim := { program := "ytkclbgoagcpckaa", sum := "c632875356a761452a9e25a7e369e291c4bc5d2b4cc9b3d6b06edb2fd7e1de4b", func := "cloister/cloisterlaw5.TicketOne", spec := "ticketOne", apart := false, narrowed := true }
def TicketOneUptoSaid : Prop := ticketOneUptoRow.holds Try.pinned (OpenSpec.upto ticketOneSpec)

/-- 'cloisterlaw5.TicketTurn', WHERE WHAT IT READS IS OF BULK AT MOST 1048576: true; the input reads as it did. -/
def ticketTurnUptoRow : OpenClaim := { program := "ytkclbgoagcpckaa", sum := "c632875356a761452a9e25a7e369e291c4bc5d2b4cc9b3d6b06edb2fd7e1de4b", func := "cloister/cloisterlaw5.TicketTurn", spec := "ticketTurn", apart := false, narrowed := true }
def TicketTurnUptoSaid : Prop := ticketTurnUptoRow.holds Try.pinned (OpenSpec.upto ticketTurnSpec)

/-- 'cloisterlaw5.TicketWait', WHERE WHAT IT READS IS OF BULK AT MOST 1048576: true; the input reads as it did. -/
def ticketWaitUptoRow : OpenClaim := { program := "ytkclbgoagcpckaa", sum := "c632875356a761452a9e25a7e369e291c4bc5d2b4cc9b3d6b06edb2fd7e1de4b", func := "cloister/cloisterlaw5.TicketWait", spec := "ticketWait", apart := false, narrowed := true }
def TicketWaitUptoSaid : Prop := ticketWaitUptoRow.holds Try.pinned (OpenSpec.upto ticketWaitSpec)

/-- 'cloisterlaw5.TicketPlays', WHERE WHAT IT READS IS OF BULK AT MOST 1048576: true; the input reads as it did. -/
def ticketPlaysUptoRow : OpenClaim := { program := "ytkclbgoagcpckaa", sum := "c632875356a761452a9e25a7e369e291c4bc5d2b4cc9b3d6b06edb2fd7e1de4b", func := "cloister/cloisterlaw5.TicketPlays", spec := "ticketPlays", unfollowed := true, recurses := true, apart := false, narrowed := true }
def TicketPlaysUptoSaid : Prop := ticketPlaysUptoRow.holds Try.pinned (OpenSpec.upto ticketPlaysSpec)

/-- 'cloisterlaw4.HartRuns', WHERE WHAT IT READS IS OF BULK AT MOST 1048576: true; the input reads as it did. -/
def hartRunsUptoRow : OpenClaim := { program := "ytkclbgoagcpckaa", sum := "c632875356a761452a9e25a7e369e291c4bc5d2b4cc9b3d6b06edb2fd7e1de4b", func := "cloister/cloisterlaw4.HartRuns", spec := "hartRuns", unfollowed := true, recurses := true, apart := false, narrowed := true }
def HartRunsUptoSaid : Prop := hartRunsUptoRow.holds Try.pinned (OpenSpec.upto hartRunsSpec)

/-- 'cloisterlaw4.HartNests', WHERE WHAT IT READS IS OF BULK AT MOST 1048576: true; the input reads as it did. -/
def hartNestsUptoRow : OpenClaim := { program := "ytkclbgoagcpckaa", sum := "c632875356a761452a9e25a7e369e291c4bc5d2b4cc9b3d6b06edb2fd7e1de4b", func := "cloister/cloisterlaw4.HartNests", spec := "hartNests", unfollowed := true, recurses := true, apart := false, narrowed := true }
def HartNestsUptoSaid : Prop := hartNestsUptoRow.holds Try.pinned (OpenSpec.upto hartNestsSpec)

/-- 'cloisterlaw4.HartMail', WHERE WHAT IT READS IS OF BULK AT MOST 1048576: true; the input reads as it did. -/
def hartMailUptoRow : OpenClaim := { program := "ytkclbgoagcpckaa", sum := "c632875356a761452a9e25a7e369e291c4bc5d2b4cc9b3d6b06edb2fd7e1de4b", func := "cloister/cloisterlaw4.HartMail", spec := "hartMail", unfollowed := true, recurses := true, apart := false, narrowed := true }
def HartMailUptoSaid : Prop := hartMailUptoRow.holds Try.pinned (OpenSpec.upto hartMailSpec)

/-- 'cloisterlaw4.HartPlays', WHERE WHAT IT READS IS OF BULK AT MOST 1048576: true; the input reads as it did. -/
def hartPlaysUptoRow : OpenClaim := { program := "ytkclbgoagcpckaa", sum := "c632875356a761452a9e25a7e369e291c4bc5d2b4cc9b3d6b06edb2fd7e1de4b", func := "cloister/cloisterlaw4.HartPlays", spec := "hartPlays", unfollowed := true, recurses := true, apart := false, narrowed := true }
def HartPlaysUptoSaid : Prop := hartPlaysUptoRow.holds Try.pinned (OpenSpec.upto hartPlaysSpec)

end Rows
end Go.Proofs.Ytkclbgoagcpckaa
