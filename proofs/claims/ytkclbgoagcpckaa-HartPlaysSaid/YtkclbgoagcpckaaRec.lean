import Derived.Test.YtkclbgoagcpckaaArr
namespace Go.Proofs.Ytkclbgoagcpckaa
open Go.RowKit

theorem mulk_inj {k i j i' j' : Nat} (hj : j < k) (hj' : j' < k) (h : i * k + j = i' * k + j') : i = i' ∧ j = j' := by
  have h1 : (i * k + j) / k = i := by rw [Nat.mul_comm, Nat.mul_add_div (by omega), Nat.div_eq_of_lt hj]; omega
  have h2 : (i' * k + j') / k = i' := by rw [Nat.mul_comm, Nat.mul_add_div (by omega), Nat.div_eq_of_lt hj']; omega
  have e : i = i' := by rw [← h1, ← h2, h]
  subst e
  exact ⟨rfl, by omega⟩
theorem mulk_lt {k n i j : Nat} (hi : i < n) (hj : j < k) : i * k + j < n * k := by
  have : (i + 1) * k ≤ n * k := Nat.mul_le_mul_right _ hi
  rw [Nat.add_mul] at this
  omega

/-- A block of n rows of k cells, told by a function. -/
def Rec (w : World) (b n k : Nat) (f : Nat → Nat → Value) (t : TypeId) : Prop := ∃ c : Array Value, Blk w b c t ∧ c.size = n * k ∧ ∀ i j, i < n → j < k → c[i * k + j]? = some (f i j)

section
variable {w : World} {b n k : Nat} {f : Nat → Nat → Value} {t : TypeId} (h : Rec w b n k f t)
include h
theorem Rec.lt : b < w.heap.size := h.elim fun _ h => h.1.lt
theorem Rec.cell {i j : Nat} (hi : i < n) (hj : j < k) : w.cell? ⟨b, i * k + j, none⟩ = some (f i j) := h.elim fun _ h => (h.1.cell _).trans (h.2.2 i j hi hj)
theorem Rec.frozen (i : Nat) : w.frozen? ⟨b, i, none⟩ = false := h.elim fun _ h => h.1.frozen i
theorem Rec.fr {S : Nat → Prop} {w' : World} (g : Fr S w w') (hs : ¬ S b) : Rec w' b n k f t := h.elim fun c h => ⟨c, h.1.fr g hs, h.2⟩
theorem Rec.alloc (o : Obj) : Rec (w.alloc o) b n k f t := h.elim fun c h => ⟨c, h.1.alloc o, h.2⟩
theorem Rec.drew : Rec w.drew b n k f t := h
theorem Rec.other {p : Addr} (hp : p.block ≠ b) (v : Value) : Rec (w.setCell p v) b n k f t := h.elim fun c h => ⟨c, h.1.other hp v, h.2⟩
theorem Rec.set {i j : Nat} (hj : j < k) (v : Value) : Rec (w.setCell ⟨b, i * k + j, none⟩ v) b n k (fun i' j' => if i' = i ∧ j' = j then v else f i' j') t := by
  obtain ⟨c, h1, h2, h3⟩ := h
  refine ⟨_, h1.set _ v, by simp [h2], fun i' j' hi' hj' => ?_⟩
  rw [Array.getElem?_setIfInBounds]
  by_cases e : i * k + j = i' * k + j'
  · obtain ⟨rfl, rfl⟩ := mulk_inj hj hj' e
    rw [if_pos rfl, if_pos (show i * k + j < c.size by rw [h2]; exact mulk_lt hi' hj')]
    simp
  · rw [if_neg e]
    simp only
    rw [if_neg (fun h => e (by rw [h.1, h.2]))]; exact h3 i' j' hi' hj'
theorem Rec.congr {g : Nat → Nat → Value} (e : ∀ i j, i < n → j < k → f i j = g i j) : Rec w b n k g t := h.elim fun c h => ⟨c, h.1, h.2.1, fun i j hi hj => (h.2.2 i j hi hj).trans (congrArg some (e i j hi hj))⟩
theorem Rec.ne {d : Nat} {e : Array Value} {u : TypeId} (q : Blk w d e u) (hd : t ≠ u) : b ≠ d := h.elim fun _ h => h.1.ne q (.inr hd)
end

/-- make([]T, n), T of k cells -/
theorem madek (P : Program) (t e : TypeId) (z : Value) (k bytes : Nat) (ht : P.underlying t = some (.slice e)) (hinfo : (P.info? e).map (fun i => (i.zero, i.size, i.bytes)) = some (some z, k, bytes))
    (n : Nat) (hbytes : bytes * n ≤ 281474976710656) (h64 : n ≤ 9223372036854775807) (w : World) :
    (Instr.makeSlice t (.int .i64 (n : Int)) (.int .i64 (n : Int))).run P w = .ok (.slice (some ⟨w.heap.size, 0, none⟩) n n) (w.alloc (.cells (madeCells z.cells (n * k)) e)) := by
  obtain ⟨i, hi, hzz⟩ := Option.map_eq_some_iff.1 hinfo
  simp only [Prod.mk.injEq] at hzz
  obtain ⟨hz, hs, hb⟩ := hzz
  have hb' : (i.bytes : Int) * (n : Int) ≤ 281474976710656 := by
    have h : ((i.bytes * n : Nat) : Int) ≤ 281474976710656 := by rw [hb]; omega
    rwa [Int.natCast_mul] at h
  have hr := run_make (P := P) w t e i z ht hi hz .i64 .i64 n n (by omega) (Int.le_refl _) hb' (by omega)
  simp only [Int.toNat_natCast, hs] at hr
  exact hr

theorem Rec.at_new {w : World} {b : Nat} (z : Array Value) (n k : Nat) {t : TypeId} (hz : z.size = k) (hb : b = w.heap.size) : Rec (w.alloc (.cells (madeCells z (n * k)) t)) b n k (fun _ j => z[j]!) t := by
  refine ⟨_, Blk.at_new hb, size_madeCells _ _, fun i j hi hj => ?_⟩
  have hlt := mulk_lt hi hj
  have e : (i * k + j) % k = j := by rw [Nat.mul_comm, Nat.mul_add_mod, Nat.mod_eq_of_lt hj]
  rw [Array.getElem?_eq_getElem (by rw [size_madeCells]; exact hlt)]
  simp [madeCells, hz, e]
end Go.Proofs.Ytkclbgoagcpckaa
