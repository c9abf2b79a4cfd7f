import Derived.Test.YtmgijchcfjmphaaLib
import Derived.Test.YtmgijchcfjmphaaOpen
import Derived.SliceStrings
namespace Go.Proofs.Ytmgijchcfjmphaa
open Go.ChangeShapes Go.WideShapes Go.ChangeAt Go.RowKit Go.Deep

theorem flat_str {P : Program} {e : TypeId} (h : P.underlying e = some .string) (hc : P.cellsOf e = 1) : Flat P e [.str] := by
  refine ⟨hc, fun H enc w base spare held n cs x ht j k' v hk hv => ?_⟩
  obtain ⟨s, rfl, _, hw⟩ := DataW.trod_string h ht
  match j, hk, hv with
  | 0, hk, hv => simp at hk hv; subst hk; subst hv; exact ⟨s, rfl, hw⟩
  | j + 1, hk, _ => simp at hk

/-- a slice of strings, as it is read -/
def Strs (w : World) (a : Option Addr) (len : Nat) (P : Nat → ByteArray) : Prop :=
  len = 0 ∨ ∃ b off, a = some ⟨b, off, none⟩ ∧ b < w.heap.size ∧ ∀ i, i < len → w.cell? ⟨b, off + i, none⟩ = some (.string (P i)) ∧ (P i).size ≤ maxLen
theorem Strs.of {w : World} {a : Option Addr} {len cap : Nat} {V : Nat → Nat → Value} (s : IsSl [.str] w a len cap V) : ∃ P, Strs w a len P := by
  rcases s.cases with h | ⟨b, off, rfl, hb, _, hc⟩
  · exact ⟨fun _ => ⟨#[]⟩, .inl h⟩
  · obtain ⟨f, hf⟩ := choose_lt (p := fun i (s : ByteArray) => V i 0 = .string s ∧ s.size ≤ maxLen) (fun i hi => (hc i 0 _ hi rfl).2)
    refine ⟨f, .inr ⟨b, off, rfl, hb, fun i hi => ⟨?_, (hf i hi).2⟩⟩⟩
    have := (hc i 0 _ hi rfl).1
    rw [(hf i hi).1] at this
    simpa using this
theorem Strs.fr {S : Nat → Prop} {w w' : World} {a : Option Addr} {len : Nat} {P : Nat → ByteArray} (h : Strs w a len P) (f : Fr S w w') (hs : ∀ k, k < w.heap.size → ¬ S k) : Strs w' a len P := by
  rcases h with h | ⟨b, off, ha, hb, hc⟩
  · exact .inl h
  · exact .inr ⟨b, off, ha, Nat.lt_of_lt_of_le hb f.size, fun i hi => ⟨(World.cell?_of_block (f.block b hb (hs b hb))).trans (hc i hi).1, (hc i hi).2⟩⟩
end Go.Proofs.Ytmgijchcfjmphaa
