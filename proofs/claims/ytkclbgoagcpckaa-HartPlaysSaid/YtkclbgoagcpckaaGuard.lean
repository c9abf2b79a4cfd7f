import Derived.Test.YtkclbgoagcpckaaHaltB
namespace Go.Proofs.Ytkclbgoagcpckaa
open Go.RowKit

/-- a closure under a guard that turns nothing that was there -/
theorem guard_idle (g : FuncId) (cap : Array Value) (w : World) (s : Stp) (hg : ∀ w, (callFunc g cap).run Try.prog w = .ok (.enter g cap) w)
    (h : Calls Try.prog g cap (gworld w) fun e w' => Tame s e ∧ Fr (fun _ => False) (gworld w) w') :
    Calls Try.prog 20 #[.func (.func g) #[] cap] w fun e w' => e = .returned (.tuple #[.agg #[.int .i64 s.why, .int .i64 s.at], .bool s.is]) ∧ Fr (fun _ => False) w w' := by
  refine (guard_of g cap w _ (fun _ => False) (fun _ h => h.elim) hg h (fun e w' h => ⟨s, h⟩)).mono ?_
  rintro e w' ⟨t, e1, w1, ⟨h1, h2⟩, h3, rfl, h4⟩
  obtain rfl := h1.uniq h3
  exact ⟨rfl, ((gworld_fr w _).trans h2).step h4 (fun i hi h => by omega)⟩

/-- a closure under a guard -/
theorem guard_does (g : FuncId) (cap : Array Value) (w : World) (s : Stp) (S : Nat → Prop) (Post : World → Prop) (hS : ∀ k, S k → k < w.heap.size) (hg : ∀ w, (callFunc g cap).run Try.prog w = .ok (.enter g cap) w)
    (h : Calls Try.prog g cap (gworld w) fun e w' => Tame s e ∧ Fr S (gworld w) w' ∧ Post w') :
    Calls Try.prog 20 #[.func (.func g) #[] cap] w fun e w' => e = .returned (.tuple #[.agg #[.int .i64 s.why, .int .i64 s.at], .bool s.is]) ∧ Fr S w w' ∧
      ∃ w1, Post w1 ∧ Fr S (gworld w) w1 ∧ Fr (fun k => w.heap.size ≤ k ∧ k < w.heap.size + 3) w1 w' := by
  refine (guard_of g cap w _ S hS hg h (fun e w' h => ⟨s, h.1, h.2.1⟩)).mono ?_
  rintro e w' ⟨t, e1, w1, ⟨h1, h2, hp⟩, h3, rfl, h4⟩
  obtain rfl := h1.uniq h3
  exact ⟨rfl, ((gworld_fr w _).trans h2).step h4 (fun i hi h => by omega), w1, hp, h2, h4⟩
end Go.Proofs.Ytkclbgoagcpckaa
