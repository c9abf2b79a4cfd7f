import Derived.Test.YtkclbgoagcpckaaLib
import Derived.Test.YtkclbgoagcpckaaOpen
namespace Go.Proofs.Ytkclbgoagcpckaa
open Go.RowKit

def In64 (n : Int) : Prop := -9223372036854775808 ≤ n ∧ n ≤ 9223372036854775807

/-- a slice of rows of three numbers, as it is read -/
def Asks (w : World) (a : Option Addr) (len : Nat) (K A X : Nat → Int) : Prop :=
  len = 0 ∨ ∃ b off, a = some ⟨b, off, none⟩ ∧ b < w.heap.size ∧ ∀ i, i < len → (w.cell? ⟨b, off + i * 3, none⟩ = some (.int .i64 (K i)) ∧ In64 (K i)) ∧ (w.cell? ⟨b, off + i * 3 + 1, none⟩ = some (.int .i64 (A i)) ∧ In64 (A i)) ∧ (w.cell? ⟨b, off + i * 3 + 2, none⟩ = some (.int .i64 (X i)) ∧ In64 (X i))

theorem Asks.of {w : World} {a : Option Addr} {len cap : Nat} {V : Nat → Nat → Value} (s : IsSl [.int .i64, .int .i64, .int .i64] w a len cap V) : ∃ K A X, Asks w a len K A X := by
  rcases s.cases with h | ⟨b, off, rfl, hb, _, hc⟩
  · exact ⟨fun _ => 0, fun _ => 0, fun _ => 0, .inl h⟩
  · obtain ⟨K, hK⟩ := ok_ints (k := .i64) (fun i hi => (hc i 0 _ hi rfl).2)
    obtain ⟨A, hA⟩ := ok_ints (k := .i64) (fun i hi => (hc i 1 _ hi rfl).2)
    obtain ⟨X, hX⟩ := ok_ints (k := .i64) (fun i hi => (hc i 2 _ hi rfl).2)
    refine ⟨K, A, X, .inr ⟨b, off, rfl, hb, fun i hi => ⟨⟨?_, wf_i64 (hK i hi).2⟩, ⟨?_, wf_i64 (hA i hi).2⟩, ⟨?_, wf_i64 (hX i hi).2⟩⟩⟩⟩
    · have := (hc i 0 _ hi rfl).1; rw [(hK i hi).1] at this; exact this
    · have := (hc i 1 _ hi rfl).1; rw [(hA i hi).1] at this; exact this
    · have := (hc i 2 _ hi rfl).1; rw [(hX i hi).1] at this; exact this

theorem Asks.fr {S : Nat → Prop} {w w' : World} {a : Option Addr} {len : Nat} {K A X : Nat → Int} (h : Asks w a len K A X) (f : Fr S w w') (hs : ∀ k, k < w.heap.size → ¬ S k) : Asks w' a len K A X := by
  rcases h with h | ⟨b, off, ha, hb, hc⟩
  · exact .inl h
  · have e : ∀ j, w'.cell? ⟨b, j, none⟩ = w.cell? ⟨b, j, none⟩ := fun j => World.cell?_of_block (f.block b hb (hs b hb))
    exact .inr ⟨b, off, ha, Nat.lt_of_lt_of_le hb f.size, fun i hi => ⟨⟨(e _).trans (hc i hi).1.1, (hc i hi).1.2⟩, ⟨(e _).trans (hc i hi).2.1.1, (hc i hi).2.1.2⟩, ⟨(e _).trans (hc i hi).2.2.1, (hc i hi).2.2.2⟩⟩⟩

/-- .. read in a later world -/
theorem Asks.at {w w' : World} {a : Option Addr} {len : Nat} {K A X : Nat → Int} (h : Asks w a len K A X) (f : Fr (fun _ => False) w w') :
    len = 0 ∨ ∃ b off, a = some ⟨b, off, none⟩ ∧ b < w.heap.size ∧ ∀ i, i < len → (w'.cell? ⟨b, off + i * 3, none⟩ = some (.int .i64 (K i)) ∧ In64 (K i)) ∧ (w'.cell? ⟨b, off + i * 3 + 1, none⟩ = some (.int .i64 (A i)) ∧ In64 (A i)) ∧ (w'.cell? ⟨b, off + i * 3 + 2, none⟩ = some (.int .i64 (X i)) ∧ In64 (X i)) := by
  rcases h with h | ⟨b, off, ha, hb, hc⟩
  · exact .inl h
  · have e : ∀ j, w'.cell? ⟨b, j, none⟩ = w.cell? ⟨b, j, none⟩ := fun j => World.cell?_of_block (f.block b hb (fun h => h))
    exact .inr ⟨b, off, ha, hb, fun i hi => ⟨⟨(e _).trans (hc i hi).1.1, (hc i hi).1.2⟩, ⟨(e _).trans (hc i hi).2.1.1, (hc i hi).2.1.2⟩, ⟨(e _).trans (hc i hi).2.2.1, (hc i hi).2.2.2⟩⟩⟩
end Go.Proofs.Ytkclbgoagcpckaa
