import Derived.Test.YtkclbgoagcpckaaTickB
import Derived.Test.YtkclbgoagcpckaaGuard
import Derived.Deep.RegionHeld3
import Derived.RegionDies
namespace Go.Proofs.Ytkclbgoagcpckaa
open Go.RowKit

/-- a slice of rows of a number and a bool, as it is read -/
def AsksT (w : World) (a : Option Addr) (len : Nat) (K : Nat → Int) (X : Nat → Bool) : Prop :=
  len = 0 ∨ ∃ b off, a = some ⟨b, off, none⟩ ∧ b < w.heap.size ∧ ∀ i, i < len → (w.cell? ⟨b, off + i * 2, none⟩ = some (.int .i64 (K i)) ∧ In64 (K i)) ∧ w.cell? ⟨b, off + i * 2 + 1, none⟩ = some (.bool (X i))
theorem AsksT.of {w : World} {a : Option Addr} {len cap : Nat} {V : Nat → Nat → Value} (s : IsSl [.int .i64, .bool] w a len cap V) : ∃ K X, AsksT w a len K X := by
  rcases s.cases with h | ⟨b, off, rfl, hb, _, hc⟩
  · exact ⟨fun _ => 0, fun _ => false, .inl h⟩
  · obtain ⟨K, hK⟩ := ok_ints (k := .i64) (fun i hi => (hc i 0 _ hi rfl).2)
    obtain ⟨X, hX⟩ := ok_bools (fun i hi => (hc i 1 _ hi rfl).2)
    refine ⟨K, X, .inr ⟨b, off, rfl, hb, fun i hi => ⟨⟨?_, wf_i64 (hK i hi).2⟩, ?_⟩⟩⟩
    · have := (hc i 0 _ hi rfl).1; rw [(hK i hi).1] at this; exact this
    · have := (hc i 1 _ hi rfl).1; rw [hX i hi] at this; exact this
theorem AsksT.at {w w' : World} {a : Option Addr} {len : Nat} {K : Nat → Int} {X : Nat → Bool} (h : AsksT w a len K X) (f : Fr (fun _ => False) w w') : AsksT w' a len K X := by
  rcases h with h | ⟨b, off, ha, hb, hc⟩
  · exact .inl h
  · have e : ∀ j, w'.cell? ⟨b, j, none⟩ = w.cell? ⟨b, j, none⟩ := fun j => World.cell?_of_block (f.block b hb (fun h => h))
    exact .inr ⟨b, off, ha, Nat.lt_of_lt_of_le hb f.size, fun i hi => ⟨⟨(e _).trans (hc i hi).1.1, (hc i hi).1.2⟩, (e _).trans (hc i hi).2⟩⟩

/-- what a deed on a try comes to -/
inductive TD (V : Nat → Int) (c : Int) (at_ tk : Nat → Int) (j a : Nat) : Bool → Stp → Bool → (Nat → Int) → Int → (Nat → Int) → (Nat → Int) → Prop
  | leaveBad (h : at_ j ≠ 2) : TD V c at_ tk j a true (.stop 6 a) false V c at_ tk
  | leave (h : at_ j = 2) : TD V c at_ tk j a true .ok false (upd V (a + 1) (wadd (V (a + 1)) 1)) (c + 1) (upd at_ j 3) tk
  | fresh (h : at_ j = 0) : TD V c at_ tk j a false .ok false (upd V a (wadd (V a) 1)) (c + 1) (upd at_ j 1) (upd tk j (V a))
  | no (h : at_ j = 1) (hv : V (a + 1) ≠ tk j) : TD V c at_ tk j a false .ok false V (c + 1) at_ tk
  | yes (h : at_ j = 1) (hv : V (a + 1) = tk j) : TD V c at_ tk j a false .ok true V (c + 1) (upd at_ j 2) tk
  | holds (h : at_ j = 2) : TD V c at_ tk j a false .ok true V c at_ tk
  | done (h : at_ j = 3) : TD V c at_ tk j a false (.stop 9 a) false V c at_ tk
theorem TD.any (V : Nat → Int) (c : Int) (at_ tk : Nat → Int) (j a : Nat) (X : Bool) (h : 0 ≤ at_ j ∧ at_ j ≤ 3) : ∃ s got V' c' at' tk', TD V c at_ tk j a X s got V' c' at' tk' := by
  cases X with
  | true =>
    by_cases e : at_ j = 2
    · exact ⟨_, _, _, _, _, _, .leave e⟩
    · exact ⟨_, _, _, _, _, _, .leaveBad e⟩
  | false =>
    rcases (show at_ j = 0 ∨ at_ j = 1 ∨ at_ j = 2 ∨ at_ j = 3 by omega) with e | e | e | e
    · exact ⟨_, _, _, _, _, _, .fresh e⟩
    · by_cases hv : V (a + 1) = tk j
      · exact ⟨_, _, _, _, _, _, .yes e hv⟩
      · exact ⟨_, _, _, _, _, _, .no e hv⟩
    · exact ⟨_, _, _, _, _, _, .holds e⟩
    · exact ⟨_, _, _, _, _, _, .done e⟩


/-- what the law's own switch does -/
theorem TD.sw {V : Nat → Int} {c : Int} {at_ tk : Nat → Int} {j a : Nat} {X : Bool} {s : Stp} {got : Bool} {V' : Nat → Int} {c' : Int} {at' tk' : Nat → Int} (D : TD V c at_ tk j a X s got V' c' at' tk') {q : Bool} (hq : q = (X && (at_ j != 2))) :
    (q = true ∧ got = false ∧ s.why = 6 ∧ s.at = a ∧ V' = V ∧ c' = c ∧ at' = at_ ∧ tk' = tk) ∨
    (q = false ∧ X = true ∧ at_ j = 2 ∧ got = false ∧ s.why = 0 ∧ s.at = 0 ∧ V' = upd V (a + 1) (wadd (V (a + 1)) 1) ∧ c' = c + 1 ∧ at' = upd at_ j 3 ∧ tk' = tk) ∨
    (q = false ∧ X = false ∧ at_ j = 0 ∧ got = false ∧ s.why = 0 ∧ s.at = 0 ∧ V' = upd V a (wadd (V a) 1) ∧ c' = c + 1 ∧ at' = upd at_ j 1 ∧ tk' = upd tk j (V a)) ∨
    (q = false ∧ X = false ∧ at_ j = 1 ∧ got = false ∧ V (a + 1) ≠ tk j ∧ s.why = 0 ∧ s.at = 0 ∧ V' = V ∧ c' = c + 1 ∧ at' = at_ ∧ tk' = tk) ∨
    (q = false ∧ X = false ∧ at_ j = 1 ∧ got = true ∧ V (a + 1) = tk j ∧ s.why = 0 ∧ s.at = 0 ∧ V' = V ∧ c' = c + 1 ∧ at' = upd at_ j 2 ∧ tk' = tk) ∨
    (q = false ∧ X = false ∧ at_ j = 2 ∧ got = true ∧ s.why = 0 ∧ s.at = 0 ∧ V' = V ∧ c' = c ∧ at' = at_ ∧ tk' = tk) ∨
    (q = false ∧ X = false ∧ at_ j = 3 ∧ got = false ∧ s.why = 9 ∧ s.at = a ∧ V' = V ∧ c' = c ∧ at' = at_ ∧ tk' = tk) := by
  subst hq
  cases D with
  | leaveBad h => exact .inl ⟨by simpa using h, rfl, rfl, rfl, rfl, rfl, rfl, rfl⟩
  | leave h => exact .inr (.inl ⟨by simp [h], rfl, h, rfl, rfl, rfl, rfl, rfl, rfl, rfl⟩)
  | fresh h => exact .inr (.inr (.inl ⟨rfl, rfl, h, rfl, rfl, rfl, rfl, rfl, rfl, rfl⟩))
  | no h hv => exact .inr (.inr (.inr (.inl ⟨rfl, rfl, h, rfl, hv, rfl, rfl, rfl, rfl, rfl, rfl⟩)))
  | yes h hv => exact .inr (.inr (.inr (.inr (.inl ⟨rfl, rfl, h, rfl, hv, rfl, rfl, rfl, rfl, rfl, rfl⟩))))
  | holds h => exact .inr (.inr (.inr (.inr (.inr (.inl ⟨rfl, rfl, h, rfl, rfl, rfl, rfl, rfl, rfl, rfl⟩)))))
  | done h => exact .inr (.inr (.inr (.inr (.inr (.inr ⟨rfl, rfl, h, rfl, rfl, rfl, rfl, rfl, rfl, rfl⟩)))))
theorem TD.is {V : Nat → Int} {c : Int} {at_ tk : Nat → Int} {j a : Nat} {X : Bool} {s : Stp} {got : Bool} {V' : Nat → Int} {c' : Int} {at' tk' : Nat → Int} (D : TD V c at_ tk j a X s got V' c' at' tk') : (s.is = false ∧ s.why = 0 ∧ s.at = 0) ∨ (s.is = true ∧ (s.why == 0) = false) := by
  cases D <;> simp
end Go.Proofs.Ytkclbgoagcpckaa
