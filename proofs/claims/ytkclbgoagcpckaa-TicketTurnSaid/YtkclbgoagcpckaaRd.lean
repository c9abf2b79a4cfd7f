import Derived.Test.YtkclbgoagcpckaaChecked
import Derived.Test.YtkclbgoagcpckaaSl
import Derived.Deep.AppendSrc
import Derived.WalkSpells
import Derived.Deep.RegionLaw
import Derived.Deep.RegionHeld3
namespace Go.Proofs.Ytkclbgoagcpckaa
open Go.RowKit

/-- a slice of elements of one cell that reads so -/
def Rd (w : World) (v : Value) (xs : List Value) : Prop :=
  (v = .slice none 0 0 ∧ xs = []) ∨ ∃ b off cap, v = .slice (some ⟨b, off, none⟩) xs.length cap ∧ xs.length ≤ cap ∧ cap ≤ maxLen ∧ b < w.heap.size ∧ ∀ j u, xs[j]? = some u → w.cell? ⟨b, off + j, none⟩ = some u

/-- the block of a slice's elements, wherever they begin -/
def At (v : Value) (k : Nat) : Prop := ∃ off len cap, v = .slice (some ⟨k, off, none⟩) len cap

theorem Rd.fr {S : Nat → Prop} {w w' : World} {v : Value} {xs : List Value} (h : Rd w v xs) (f : Fr S w w') (hs : ∀ k, At v k → ¬ S k) : Rd w' v xs := by
  rcases h with h | ⟨b, off, cap, rfl, h1, h2, h3, h4⟩
  · exact .inl h
  · exact .inr ⟨b, off, cap, rfl, h1, h2, Nat.lt_of_lt_of_le h3 f.size, fun j u hj => (World.cell?_of_block (f.block b h3 (hs b ⟨_, _, _, rfl⟩))).trans (h4 j u hj)⟩
theorem Own.rd {w : World} {e : TypeId} {n : Nat} {v : Value} {xs : List Value} (h : Own w e 1 n v xs) : Rd w v xs := by
  have hl := h.length
  rcases h.cases with ⟨rfl, rfl, rfl⟩ | ⟨g, cap, rfl, h1, h2, h3, h4, _⟩
  · exact .inl ⟨rfl, rfl⟩
  · refine .inr ⟨g, 0, cap, by rw [hl]; simp, by omega, h3, h1, fun j u hj => ?_⟩
    have hj' : j < xs.length := (List.getElem?_eq_some_iff.1 hj).1
    rw [Nat.zero_add, h4 j (by omega)]
    exact hj
theorem Of.at {v : Value} {w : World} {e : TypeId} {n : Nat} {xs : List Value} (h : Own w e 1 n v xs) {k : Nat} (hk : At v k) : Of v k := by
  obtain ⟨off, len, cap, rfl⟩ := hk
  rcases h.cases with ⟨h, _⟩ | ⟨g, cap', h, _⟩
  · simp at h
  · simp only [Value.slice.injEq, Option.some.injEq, Addr.mk.injEq] at h
    obtain ⟨⟨rfl, _⟩, _⟩ := h
    rfl
theorem Rd.form {w : World} {v : Value} {xs : List Value} (h : Rd w v xs) : ∃ a cap, v = .slice a xs.length cap ∧ xs.length ≤ cap ∧ cap ≤ maxLen := by
  rcases h with ⟨rfl, rfl⟩ | ⟨b, off, cap, rfl, h1, h2, _⟩
  · exact ⟨none, 0, rfl, Nat.le_refl _, Nat.zero_le _⟩
  · exact ⟨_, cap, rfl, h1, h2⟩

/-- the numbers as values -/
def ints (l : List Int) : List Value := l.map (Value.int .i64)
theorem ints_len (l : List Int) : (ints l).length = l.length := by simp [ints]
theorem ints_get (l : List Int) (j : Nat) : (ints l)[j]? = l[j]?.map (Value.int .i64) := by simp [ints]
theorem Rd.int {w : World} {v : Value} {l : List Int} (h : Rd w v (ints l)) {j : Nat} (hj : j < l.length) : ∃ b off cap, v = .slice (some ⟨b, off, none⟩) l.length cap ∧ b < w.heap.size ∧ w.cell? ⟨b, off + j, none⟩ = some (.int .i64 l[j]) := by
  rcases h with ⟨_, h⟩ | ⟨b, off, cap, rfl, h1, h2, h3, h4⟩
  · have := congrArg List.length h; rw [ints_len, List.length_nil] at this; omega
  · exact ⟨b, off, cap, by rw [ints_len], h3, h4 j _ (by rw [ints_get, List.getElem?_eq_getElem hj]; rfl)⟩

theorem info_int1 : (Try.prog.info? 3).map (fun i => (i.zero, i.size, i.bytes)) = some (some (.int .i64 0), 1, 8) := by kernel_rfl

section
variable {P : Program} (w : World)
/-- Append what a slice holds to a slice of the call's own that isn't nil. -/
theorem run_append_rd (t ty e : TypeId) (i : TypeInfo) (z : Value) (bytes : Nat) (ht : P.underlying t = some (.slice e)) (hi : P.info? e = some i) (hz : i.zero = some z)
    (hsize : i.size = 1) (hby : i.bytes = bytes) (hzs : z.cells.size = 1) (hb8 : bytes ≤ 64)
    (g n cap : Nat) (xs : List Value) (hown : Own w e 1 n (.slice (some ⟨g, 0, none⟩) n cap) xs) (y : Value) (ys : List Value) (hy : Rd w y ys) (h1 : ∀ u ∈ ys, u.oneCell' = true) (hn : n + ys.length ≤ 1000000000) :
    ∃ v' w', (Builtin.append_ #[t, t] ty #[.slice (some ⟨g, 0, none⟩) n cap, y]).run P w = .ok v' w' ∧ Own w' e 1 (n + ys.length) v' (xs ++ ys) ∧ Fr (fun k => k = g) w w' ∧ ∃ g' cap', v' = .slice (some ⟨g', 0, none⟩) (n + ys.length) cap' ∧ (g' = g ∨ w.heap.size ≤ g') := by
  rcases hy with ⟨rfl, rfl⟩ | ⟨b, off, c, rfl, h2, h3, h4, h5⟩
  · have hs := Src.ofNil (P := P) w (size := i.size) ht 0
    obtain ⟨_, hc1, hc2⟩ : n ≤ n ∧ n ≤ cap ∧ cap ≤ maxLen := by
      obtain ⟨a, c, e, h1, h2⟩ := hown.form
      simp only [Value.slice.injEq] at e
      exact ⟨Nat.le_refl _, by omega, by omega⟩
    have hr := run_append_room_src (P := P) w t t ty e i ht hi g 0 n cap (.slice none 0 0) 0 [] hs (by simpa using hc1) (by simp) (by simp)
    refine ⟨_, _, hr, by simpa [World.setCells] using hown, Fr.refl _ _, g, cap, rfl, .inl rfl⟩
  · have hadd : ∀ j, (⟨b, off, none⟩ : Addr).add j = ⟨b, off + j, none⟩ := fun j => by unfold Addr.add; split <;> simp_all
    obtain ⟨hc1, hc2⟩ : n ≤ cap ∧ cap ≤ maxLen := by
      obtain ⟨a, c, e, h1, h2⟩ := hown.form
      simp only [Value.slice.injEq] at e
      exact ⟨by omega, by omega⟩
    by_cases hys : ys = []
    · subst hys
      have hs := Src.ofSlice (P := P) w (size := i.size) ht ⟨b, off, none⟩ 0 c [] (by simp) (by simp) (by simp)
      have hr := run_append_room_src (P := P) w t t ty e i ht hi g 0 n cap (.slice (some ⟨b, off, none⟩) 0 c) 0 [] hs (by simpa using hc1) (by simp) (by simp)
      exact ⟨_, _, hr, by simpa [World.setCells] using hown, Fr.refl _ _, g, cap, rfl, .inl rfl⟩
    have hpos : 0 < ys.length := List.length_pos_iff.2 hys
    obtain ⟨v', w', hr, ho, hf, hv⟩ := run_append_fresh (P := P) w t ty e i z 1 bytes ht hi hz hsize hby hzs (by decide) _ n xs hown ⟨b, off, none⟩ ys.length c ys (by simp) (fun j u hj => by rw [hadd]; exact h5 j u hj) h1
      (by unfold maxLen; omega) (by have : (n + ys.length) * bytes ≤ 1000000000 * 64 := Nat.mul_le_mul (by omega) hb8; omega)
    refine ⟨v', w', hr, ho, hf.mono (fun k _ h => by simpa [Of, Value.ownBlock] using h.symm), ?_⟩
    rcases ho.cases with ⟨rfl, h0, h1⟩ | ⟨g', cap', rfl, hg, _⟩
    · omega
    · refine ⟨g', cap', rfl, ?_⟩
      rcases hv g' rfl with h | h
      · left; simpa [Of, Value.ownBlock] using h.symm
      · exact .inr h
end

/-- .. at a step of a region that draws its order -/
theorem step_append_rd {P : Program} {w : World} {ops : Array Oper} {o : Oper} {a : Act} {K : Act → World → Prop} {Q : Exit → Act → World → Prop} {E : Prop} (hgd : o.guard = none) (s x : Operand) (t : TypeId)
    (ho : o.op = .call { callee := .builtin .append, args := #[s, x], argTypes := #[t, t] })
    (e : TypeId) (i : TypeInfo) (z : Value) (bytes : Nat) (ht : P.underlying t = some (.slice e)) (hi : P.info? e = some i) (hz : i.zero = some z)
    (hsize : i.size = 1) (hby : i.bytes = bytes) (hzs : z.cells.size = 1) (hb8 : bytes ≤ 64)
    (g n cap : Nat) (xs : List Value) (hs : a.eval s = .slice (some ⟨g, 0, none⟩) n cap) (hown : Own w e 1 n (.slice (some ⟨g, 0, none⟩) n cap) xs) (y : Value) (ys : List Value) (hx : a.eval x = y) (hy : Rd w y ys) (h1 : ∀ u ∈ ys, u.oneCell' = true) (hn : n + ys.length ≤ 1000000000)
    (h : ∀ g' cap' w', Own w' e 1 (n + ys.length) (.slice (some ⟨g', 0, none⟩) (n + ys.length) cap') (xs ++ ys) → Fr (fun k => k = g) w w' → (g' = g ∨ w.heap.size ≤ g') → K (a.put o.dst (.slice (some ⟨g', 0, none⟩) (n + ys.length) cap')) w') :
    if Region.wanted o (yielded ops a.tmps) = true then Oper.wp P o a w K Q else E := by
  have hw : Region.wanted o (yielded ops a.tmps) = true := by simp [Region.wanted, hgd]
  rw [if_pos hw]
  obtain ⟨v', w', hr, h2, h3, g', cap', rfl, h4⟩ := run_append_rd (P := P) w t o.type e i z bytes ht hi hz hsize hby hzs hb8 g n cap xs hown y ys hy h1 hn
  have hrun : (execOp a.eval o).run P w = .ok (.value (.slice (some ⟨g', 0, none⟩) (n + ys.length) cap')) w' := by
    simp only [execOp, ho, resolve, invoke, builtin, Sem.run_bind, Sem.run_pure, Result.andThen_ok, List.map_toArray, List.map_cons, List.map_nil, hs, hx, hr]
  unfold Oper.wp
  rw [hrun]
  exact h g' cap' w' h2 h3 h4

theorem wpList_append_rd {P : Program} {w : World} {ops : Array Oper} {rest : List Oper} {o : Oper} {a : Act} {Q : Exit → Act → World → Prop} (hgd : o.guard = none) (s x : Operand) (t : TypeId)
    (ho : o.op = .call { callee := .builtin .append, args := #[s, x], argTypes := #[t, t] })
    (e : TypeId) (i : TypeInfo) (z : Value) (bytes : Nat) (ht : P.underlying t = some (.slice e)) (hi : P.info? e = some i) (hz : i.zero = some z)
    (hsize : i.size = 1) (hby : i.bytes = bytes) (hzs : z.cells.size = 1) (hb8 : bytes ≤ 64)
    (g n cap : Nat) (xs : List Value) (hs : a.eval s = .slice (some ⟨g, 0, none⟩) n cap) (hown : Own w e 1 n (.slice (some ⟨g, 0, none⟩) n cap) xs) (y : Value) (ys : List Value) (hx : a.eval x = y) (hy : Rd w y ys) (h1 : ∀ u ∈ ys, u.oneCell' = true) (hn : n + ys.length ≤ 1000000000)
    (h : ∀ g' cap' w', Own w' e 1 (n + ys.length) (.slice (some ⟨g', 0, none⟩) (n + ys.length) cap') (xs ++ ys) → Fr (fun k => k = g) w w' → (g' = g ∨ w.heap.size ≤ g') → wpList P ops Q rest (a.put o.dst (.slice (some ⟨g', 0, none⟩) (n + ys.length) cap')) w') :
    wpList P ops Q (o :: rest) a w := by
  refine wpList_plain hgd fun K hK => ?_
  obtain ⟨v', w', hr, h2, h3, g', cap', rfl, h4⟩ := run_append_rd (P := P) w t o.type e i z bytes ht hi hz hsize hby hzs hb8 g n cap xs hown y ys hy h1 hn
  have hk := hK _ _ (h g' cap' w' h2 h3 h4)
  have hrun : (execOp a.eval o).run P w = .ok (.value (.slice (some ⟨g', 0, none⟩) (n + ys.length) cap')) w' := by
    simp only [execOp, ho, resolve, invoke, builtin, Sem.run_bind, Sem.run_pure, Result.andThen_ok, List.map_toArray, List.map_cons, List.map_nil, hs, hx, hr]
  unfold Oper.wp
  rw [hrun]
  exact hk

theorem ints_one (l : List Int) : ∀ u ∈ ints l, u.oneCell' = true := by
  intro u hu
  simp only [ints, List.mem_map] at hu
  obtain ⟨a, _, rfl⟩ := hu
  rfl
end Go.Proofs.Ytkclbgoagcpckaa
