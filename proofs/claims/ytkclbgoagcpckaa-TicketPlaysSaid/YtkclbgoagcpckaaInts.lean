import Derived.Test.YtkclbgoagcpckaaAsk
namespace Go.Proofs.Ytkclbgoagcpckaa
open Go.RowKit

/-- a slice of numbers, as it is read -/
def Nums (w : World) (a : Option Addr) (len : Nat) (A : Nat → Int) : Prop :=
  len = 0 ∨ ∃ b off, a = some ⟨b, off, none⟩ ∧ b < w.heap.size ∧ ∀ i, i < len → w.cell? ⟨b, off + i, none⟩ = some (.int .i64 (A i)) ∧ In64 (A i)

theorem Nums.of {w : World} {a : Option Addr} {len cap : Nat} {V : Nat → Nat → Value} (s : IsSl [.int .i64] w a len cap V) : ∃ A, Nums w a len A := by
  rcases s.cases with h | ⟨b, off, rfl, hb, _, hc⟩
  · exact ⟨fun _ => 0, .inl h⟩
  · obtain ⟨A, hA⟩ := ok_ints (k := .i64) (fun i hi => (hc i 0 _ hi rfl).2)
    refine ⟨A, .inr ⟨b, off, rfl, hb, fun i hi => ⟨?_, wf_i64 (hA i hi).2⟩⟩⟩
    have h := (hc i 0 _ hi rfl).1
    rw [(hA i hi).1] at h
    have e : off + (i * [FK.int IntKind.i64].length + 0) = off + i := by simp
    rw [e] at h
    exact h

/-- .. read in a later world -/
theorem Nums.at {w w' : World} {a : Option Addr} {len : Nat} {A : Nat → Int} (h : Nums w a len A) (f : Fr (fun _ => False) w w') : Nums w' a len A := by
  rcases h with h | ⟨b, off, ha, hb, hc⟩
  · exact .inl h
  · have e : ∀ j, w'.cell? ⟨b, j, none⟩ = w.cell? ⟨b, j, none⟩ := fun j => World.cell?_of_block (f.block b hb (fun h => h))
    exact .inr ⟨b, off, ha, Nat.lt_of_lt_of_le hb f.size, fun i hi => ⟨(e _).trans (hc i hi).1, (hc i hi).2⟩⟩
end Go.Proofs.Ytkclbgoagcpckaa
