import Derived.Test.YtkclbgoagcpckaaMem
namespace Go.Proofs.Ytkclbgoagcpckaa
open Go.RowKit

theorem Mem.other {w : World} {m g n : Nat} {V : Nat → Int} {c : Int} (h : Mem w m g n V c) {p : Addr} (h1 : p.block ≠ m) (h2 : p.block ≠ g) (v : Value) : Mem (w.setCell p v) m g n V c := ⟨h.h.other h1 v, h.a.other h2 v⟩
theorem Mem.congr {w : World} {m g n : Nat} {V U : Nat → Int} {c d : Int} (h : Mem w m g n V c) (e : ∀ i, i < n → V i = U i) (hc : c = d) : Mem w m g n U d := ⟨hc ▸ h.h, h.a.congr fun i hi => by rw [e i hi]⟩
end Go.Proofs.Ytkclbgoagcpckaa
