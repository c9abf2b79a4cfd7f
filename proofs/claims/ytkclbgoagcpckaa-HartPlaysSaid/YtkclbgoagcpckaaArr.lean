import Derived.Test.YtkclbgoagcpckaaChecked
import Derived.Test.YtkclbgoagcpckaaLib
import Derived.Test.YtkclbgoagcpckaaSl
namespace Go.Proofs.Ytkclbgoagcpckaa
open Go.RowKit

/-- a function, turned at one place -/
def upd {α : Type} (f : Nat → α) (i : Nat) (v : α) : Nat → α := fun j => if j = i then v else f j
theorem upd_self {α : Type} (f : Nat → α) (i : Nat) (v : α) : upd f i v i = v := by simp [upd]
theorem upd_ne {α : Type} (f : Nat → α) {i j : Nat} (v : α) (h : j ≠ i) : upd f i v j = f j := by simp [upd, h]
theorem upd_comp {α β : Type} (g : α → β) (f : Nat → α) (i : Nat) (v : α) : (fun j => g (upd f i v j)) = upd (fun j => g (f j)) i (g v) := by
  funext j; simp only [upd]; split <;> rfl

/-- A block of n cells, told by a function. -/
def Arr (w : World) (b n : Nat) (f : Nat → Value) (t : TypeId) : Prop := ∃ c : Array Value, Blk w b c t ∧ c.size = n ∧ ∀ i, i < n → c[i]? = some (f i)

theorem Arr.lt {w : World} {b n : Nat} {f : Nat → Value} {t : TypeId} (h : Arr w b n f t) : b < w.heap.size := h.elim fun _ h => h.1.lt
theorem Arr.cell {w : World} {b n : Nat} {f : Nat → Value} {t : TypeId} (h : Arr w b n f t) {i : Nat} (hi : i < n) : w.cell? ⟨b, i, none⟩ = some (f i) := h.elim fun _ h => (h.1.cell i).trans (h.2.2 i hi)
theorem Arr.frozen {w : World} {b n : Nat} {f : Nat → Value} {t : TypeId} (h : Arr w b n f t) (i : Nat) : w.frozen? ⟨b, i, none⟩ = false := h.elim fun _ h => h.1.frozen i
theorem Arr.fr {S : Nat → Prop} {w w' : World} {b n : Nat} {f : Nat → Value} {t : TypeId} (h : Arr w b n f t) (g : Fr S w w') (hs : ¬ S b) : Arr w' b n f t := h.elim fun c h => ⟨c, h.1.fr g hs, h.2⟩
theorem Arr.alloc {w : World} {b n : Nat} {f : Nat → Value} {t : TypeId} (h : Arr w b n f t) (o : Obj) : Arr (w.alloc o) b n f t := h.elim fun c h => ⟨c, h.1.alloc o, h.2⟩
theorem Arr.drew {w : World} {b n : Nat} {f : Nat → Value} {t : TypeId} (h : Arr w b n f t) : Arr w.drew b n f t := h
theorem Arr.other {w : World} {b n : Nat} {f : Nat → Value} {t : TypeId} (h : Arr w b n f t) {p : Addr} (hp : p.block ≠ b) (v : Value) : Arr (w.setCell p v) b n f t := h.elim fun c h => ⟨c, h.1.other hp v, h.2⟩
theorem Arr.set {w : World} {b n : Nat} {f : Nat → Value} {t : TypeId} (h : Arr w b n f t) (i : Nat) (v : Value) : Arr (w.setCell ⟨b, i, none⟩ v) b n (upd f i v) t := by
  obtain ⟨c, h1, h2, h3⟩ := h
  refine ⟨_, h1.set i v, by simp [h2], fun j hj => ?_⟩
  rw [Array.getElem?_setIfInBounds]
  by_cases e : j = i
  · subst e; rw [upd_self, if_pos rfl, if_pos (by omega)]
  · rw [upd_ne _ _ e, if_neg (fun k => e k.symm)]; exact h3 j hj
theorem Arr.congr {w : World} {b n : Nat} {f g : Nat → Value} {t : TypeId} (h : Arr w b n f t) (e : ∀ i, i < n → f i = g i) : Arr w b n g t := h.elim fun c h => ⟨c, h.1, h.2.1, fun i hi => (h.2.2 i hi).trans (congrArg some (e i hi))⟩
theorem Arr.ne {w : World} {b d n : Nat} {f : Nat → Value} {e : Array Value} {t u : TypeId} (h : Arr w b n f t) (k : Blk w d e u) (hd : t ≠ u) : b ≠ d := h.elim fun _ h => h.1.ne k (.inr hd)
theorem Arr.ne2 {w : World} {b d n m : Nat} {f g : Nat → Value} {t u : TypeId} (h : Arr w b n f t) (k : Arr w d m g u) (hd : t ≠ u) : b ≠ d := h.elim fun _ h => k.elim fun _ k => h.1.ne k.1 (.inr hd)
theorem Arr.at_new {w : World} {b : Nat} (z : Value) (n : Nat) {t : TypeId} (hb : b = w.heap.size) : Arr (w.alloc (.cells (madeCells #[z] n) t)) b n (fun _ => z) t := by
  refine ⟨_, Blk.at_new hb, size_madeCells _ _, fun i hi => ?_⟩
  rw [← Array.getElem?_toList, toList_madeCells_one, List.getElem?_replicate, if_pos hi]

/-- make([]T, n), T of one cell -/
theorem made1 (P : Program) (t e : TypeId) (z : Value) (bytes : Nat) (ht : P.underlying t = some (.slice e)) (hinfo : (P.info? e).map (fun i => (i.zero, i.size, i.bytes)) = some (some z, 1, bytes)) (hz1 : z.cells = #[z])
    (n : Nat) (hbytes : bytes * n ≤ 281474976710656) (h63 : n ≤ 9223372036854775807) (w : World) :
    (Instr.makeSlice t (.int .i64 (n : Int)) (.int .i64 (n : Int))).run P w = .ok (.slice (some ⟨w.heap.size, 0, none⟩) n n) (w.alloc (.cells (madeCells #[z] n) e)) := by
  obtain ⟨i, hi, hzz⟩ := Option.map_eq_some_iff.1 hinfo
  simp only [Prod.mk.injEq] at hzz
  obtain ⟨hz, hs, hb⟩ := hzz
  have hb' : (i.bytes : Int) * (n : Int) ≤ 281474976710656 := by
    have h : ((i.bytes * n : Nat) : Int) ≤ 281474976710656 := by rw [hb]; omega
    rwa [Int.natCast_mul] at h
  have hr := run_make (P := P) w t e i z ht hi hz .i64 .i64 n n (by omega) (Int.le_refl _) hb' (by omega)
  simp only [Int.toNat_natCast, hs, Nat.mul_one, hz1] at hr
  exact hr

theorem info_int' : (Try.prog.info? 3).map (fun i => (i.zero, i.size, i.bytes)) = some (some (.int .i64 0), 1, 8) := by kernel_rfl
theorem info_bool' : (Try.prog.info? 4).map (fun i => (i.zero, i.size, i.bytes)) = some (some (.bool false), 1, 1) := by kernel_rfl

theorem made_int (n : Nat) (h : n ≤ 1000000) (w : World) :
    (Instr.makeSlice 30 (.int .i64 (n : Int)) (.int .i64 (n : Int))).run Try.prog w = .ok (.slice (some ⟨w.heap.size, 0, none⟩) n n) (w.alloc (.cells (madeCells #[.int .i64 0] n) 3)) :=
  made1 _ _ _ _ 8 Try.underlying30 info_int' rfl n (by omega) (by omega) w
end Go.Proofs.Ytkclbgoagcpckaa
