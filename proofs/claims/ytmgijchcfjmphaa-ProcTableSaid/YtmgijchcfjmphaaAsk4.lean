import Derived.Test.YtmgijchcfjmphaaAsk
namespace Go.Proofs.Ytmgijchcfjmphaa
open Go.RowKit

/-- a slice of rows of four numbers, as it is read -/
def Asks4 (w : World) (a : Option Addr) (len : Nat) (F : Nat → Nat → Int) : Prop :=
  len = 0 ∨ ∃ b off, a = some ⟨b, off, none⟩ ∧ b < w.heap.size ∧ ∀ i, i < len → (w.cell? ⟨b, off + i * 4, none⟩ = some (.int .i64 (F i 0)) ∧ In64 (F i 0)) ∧ (w.cell? ⟨b, off + i * 4 + 1, none⟩ = some (.int .i64 (F i 1)) ∧ In64 (F i 1)) ∧ (w.cell? ⟨b, off + i * 4 + 2, none⟩ = some (.int .i64 (F i 2)) ∧ In64 (F i 2)) ∧ (w.cell? ⟨b, off + i * 4 + 3, none⟩ = some (.int .i64 (F i 3)) ∧ In64 (F i 3))

theorem Asks4.of {w : World} {a : Option Addr} {len cap : Nat} {V : Nat → Nat → Value} (s : IsSl [.int .i64, .int .i64, .int .i64, .int .i64] w a len cap V) : ∃ F, Asks4 w a len F := by
  rcases s.cases with h | ⟨b, off, rfl, hb, _, hc⟩
  · exact ⟨fun _ _ => 0, .inl h⟩
  · obtain ⟨A, hA⟩ := ok_ints (k := .i64) (fun i hi => (hc i 0 _ hi rfl).2)
    obtain ⟨B, hB⟩ := ok_ints (k := .i64) (fun i hi => (hc i 1 _ hi rfl).2)
    obtain ⟨C, hC⟩ := ok_ints (k := .i64) (fun i hi => (hc i 2 _ hi rfl).2)
    obtain ⟨D, hD⟩ := ok_ints (k := .i64) (fun i hi => (hc i 3 _ hi rfl).2)
    refine ⟨fun i j => if j = 0 then A i else if j = 1 then B i else if j = 2 then C i else D i, .inr ⟨b, off, rfl, hb, fun i hi => ⟨⟨?_, wf_i64 (hA i hi).2⟩, ⟨?_, wf_i64 (hB i hi).2⟩, ⟨?_, wf_i64 (hC i hi).2⟩, ⟨?_, wf_i64 (hD i hi).2⟩⟩⟩⟩
    · have := (hc i 0 _ hi rfl).1; rw [(hA i hi).1] at this; exact this
    · have := (hc i 1 _ hi rfl).1; rw [(hB i hi).1] at this; exact this
    · have := (hc i 2 _ hi rfl).1; rw [(hC i hi).1] at this; exact this
    · have := (hc i 3 _ hi rfl).1; rw [(hD i hi).1] at this; exact this

theorem Asks4.fr {S : Nat → Prop} {w w' : World} {a : Option Addr} {len : Nat} {F : Nat → Nat → Int} (h : Asks4 w a len F) (f : Fr S w w') (hs : ∀ k, k < w.heap.size → ¬ S k) : Asks4 w' a len F := by
  rcases h with h | ⟨b, off, ha, hb, hc⟩
  · exact .inl h
  · have e : ∀ j, w'.cell? ⟨b, j, none⟩ = w.cell? ⟨b, j, none⟩ := fun j => World.cell?_of_block (f.block b hb (hs b hb))
    exact .inr ⟨b, off, ha, Nat.lt_of_lt_of_le hb f.size, fun i hi => ⟨⟨(e _).trans (hc i hi).1.1, (hc i hi).1.2⟩, ⟨(e _).trans (hc i hi).2.1.1, (hc i hi).2.1.2⟩, ⟨(e _).trans (hc i hi).2.2.1.1, (hc i hi).2.2.1.2⟩, ⟨(e _).trans (hc i hi).2.2.2.1, (hc i hi).2.2.2.2⟩⟩⟩
end Go.Proofs.Ytmgijchcfjmphaa
