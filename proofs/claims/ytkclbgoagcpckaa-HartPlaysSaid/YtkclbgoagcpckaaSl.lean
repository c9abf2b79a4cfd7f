import Derived.Test.YtkclbgoagcpckaaLib
import Derived.Laws.AppendOwn
import Derived.Laws.OwnMore
namespace Go.Proofs.Ytkclbgoagcpckaa
open Go.RowKit

/-- A slice of the call's own, its elements `size` cells each. -/
def Own (w : World) (e : TypeId) (size n : Nat) (v : Value) (xs : List Value) : Prop := w.ownsRow 0 e size v n xs

/-- is it this block's? -/
def Of (v : Value) (k : Nat) : Prop := v.ownBlock = some k

theorem Own.nil (w : World) (e : TypeId) (size : Nat) : Own w e size 0 (.slice none 0 0) [] := World.ownsRow_nil w 0 e size

theorem Own.length {w : World} {e : TypeId} {size n : Nat} {v : Value} {xs : List Value} (h : Own w e size n v xs) : xs.length = n * size := h.1

theorem Own.lt {w : World} {e : TypeId} {size n : Nat} {v : Value} {xs : List Value} (h : Own w e size n v xs) {k : Nat} (hk : Of v k) : k < w.heap.size := (World.ownsRow.lt h k hk).2

theorem Own.fr {S : Nat → Prop} {w w' : World} {e : TypeId} {size n : Nat} {v : Value} {xs : List Value} (h : Own w e size n v xs) (f : Fr S w w') (hs : ∀ k, Of v k → ¬ S k) : Own w' e size n v xs := by
  refine ⟨h.1, ?_⟩
  rcases h.2 with hn | ⟨g, cap, cur, rfl, hb, hgg, rest⟩
  · exact .inl hn
  · refine .inr ⟨g, cap, cur, rfl, hb, ?_, rest⟩
    rw [f.block g (Array.getElem?_eq_some_iff.1 hgg).1 (hs g rfl)]
    exact hgg

theorem Own.ne {w : World} {e : TypeId} {size n : Nat} {v : Value} {xs : List Value} (h : Own w e size n v xs) {b : Nat} {c : Array Value} {t : TypeId} (hb : Blk w b c t) (ht : t ≠ e) : ¬ Of v b := by
  intro hk
  rcases h.2 with ⟨rfl, _⟩ | ⟨g, cap, cur, rfl, _, hgg, _⟩
  · simp [Of, Value.ownBlock] at hk
  · simp [Of, Value.ownBlock] at hk
    subst hk
    unfold Blk at hb
    rw [hgg] at hb
    simp at hb
    exact ht hb.2.symm

theorem Own.cases {w : World} {e : TypeId} {size n : Nat} {v : Value} {xs : List Value} (h : Own w e size n v xs) :
    (v = .slice none 0 0 ∧ n = 0 ∧ xs = []) ∨ ∃ g cap, v = .slice (some ⟨g, 0, none⟩) n cap ∧ g < w.heap.size ∧ n ≤ cap ∧ cap ≤ maxLen ∧
      (∀ j, j < n * size → w.cell? ⟨g, j, none⟩ = xs[j]?) ∧ (∀ j, w.frozen? ⟨g, j, none⟩ = false) := by
  rcases h.2 with ⟨rfl, rfl⟩ | ⟨g, cap, cur, rfl, hb, hgg, hn, hc, hr⟩
  · exact .inl ⟨rfl, rfl, List.eq_nil_of_length_eq_zero (by have := h.1; omega)⟩
  · exact .inr ⟨g, cap, rfl, (Array.getElem?_eq_some_iff.1 hgg).1, hn, hc, fun j hj => World.ownsRow.cellAt h j hj, fun j => World.ownsRow.frozenAt h j⟩

theorem Own.form {w : World} {e : TypeId} {size n : Nat} {v : Value} {xs : List Value} (h : Own w e size n v xs) : ∃ a cap, v = .slice a n cap ∧ n ≤ cap ∧ cap ≤ maxLen := by
  rcases h.cases with ⟨rfl, rfl, _⟩ | ⟨g, cap, rfl, _, h1, h2, _⟩
  · exact ⟨none, 0, rfl, Nat.le_refl _, Nat.zero_le _⟩
  · exact ⟨_, cap, rfl, h1, h2⟩

theorem Own.lit {w : World} (cs : Array Value) (e : TypeId) (size n : Nat) (hm : n ≤ maxLen) (hs : cs.size = n * size) :
    Own (w.alloc (.cells cs e)) e size n (.slice (some ⟨w.heap.size, 0, none⟩) n n) cs.toList := World.ownsRow_lit (base := 0) (e := e) (size := size) w cs n (Nat.zero_le _) hm hs

theorem Own.store {w : World} {e : TypeId} {size n g cap : Nat} {xs : List Value} (h : Own w e size n (.slice (some ⟨g, 0, none⟩) n cap) xs) (j : Nat) (u : Value) :
    Own (w.setCell ⟨g, j, none⟩ u) e size n (.slice (some ⟨g, 0, none⟩) n cap) (xs.set j u) := (World.ownsRow.stored h j u).1

theorem Fr.of_grown {w w' : World} {row : Option Nat} (h : w.grownBy w' row) : Fr (fun k => row = some k) w w' :=
  ⟨h.os, h.tape, h.output, h.size, fun k hk hs => h.block k hk (fun e => hs e.symm)⟩

section
variable {P : Program} (w : World)

/-- Append to such a slice: the new one lies where the old one did, or in a new block. -/
theorem run_append_fresh (t ty e : TypeId) (i : TypeInfo) (z : Value) (size bytes : Nat) (ht : P.underlying t = some (.slice e)) (hi : P.info? e = some i) (hz : i.zero = some z)
    (hsize : i.size = size) (hby : i.bytes = bytes) (hzs : z.cells.size = size) (hsz : 0 < size)
    (v : Value) (n : Nat) (xs : List Value) (hown : Own w e size n v xs)
    (a : Addr) (m c : Nat) (news : List Value) (hl : news.length = m * size) (hnews : ∀ j u, news[j]? = some u → w.cell? (a.add j) = some u) (h1 : ∀ u ∈ news, u.oneCell' = true)
    (h63 : n + m ≤ maxLen) (hbytes : (n + m) * bytes ≤ 140737488355328) :
    ∃ v' w', (Builtin.append_ #[t, t] ty #[v, .slice (some a) m c]).run P w = .ok v' w' ∧ Own w' e size (n + m) v' (xs ++ news) ∧ Fr (Of v) w w' ∧ (∀ k, Of v' k → Of v k ∨ w.heap.size ≤ k) := by
  obtain ⟨v', w', hr, h2, h3, _⟩ := run_append_own (P := P) w 0 t ty e i z size bytes ht hi hz hsize hby hzs hsz v n xs hown a m c news hl hnews h1 h63 hbytes (Nat.zero_le _)
  refine ⟨v', w', hr, h2, ⟨h3.os, h3.tape, h3.output, h3.size, fun k hk hs => h3.block k hk (fun h => hs h.symm)⟩, ?_⟩
  rcases hown.2 with ⟨rfl, rfl⟩ | ⟨g, cap, cur, rfl, hbg, hg, hnc, hcm, hcs, htake⟩
  · obtain ⟨v1, w1, hr1, h21, _⟩ := run_append_own (P := P) w w.heap.size t ty e i z size bytes ht hi hz hsize hby hzs hsz (.slice none 0 0) 0 xs
      ⟨by have := hown.1; simpa using this, .inl ⟨rfl, rfl⟩⟩ a m c news hl hnews h1 h63 hbytes (Nat.le_refl _)
    rw [hr] at hr1
    simp only [Result.ok.injEq] at hr1
    obtain ⟨rfl, rfl⟩ := hr1
    intro k hk
    exact .inr (World.ownsRow.lt h21 k hk).1
  · subst hsize
    subst hby
    by_cases hroom : n + m ≤ cap
    · have hfit : n * i.size + news.length ≤ cur.size := by rw [hl, hcs, ← Nat.add_mul]; exact Nat.mul_le_mul_right _ hroom
      have hr1 := run_append_room (P := P) w t ty e i ht hi g n cap cur hg a m c news hl hnews h1 hroom hfit
      rw [hr] at hr1
      simp only [Result.ok.injEq] at hr1
      obtain ⟨rfl, _⟩ := hr1
      intro k hk
      exact .inl hk
    · have holds : ∀ j u, xs[j]? = some u → w.cell? ((⟨g, 0, none⟩ : Addr).add j) = some u := World.ownsRow.cells hown (g := g) rfl
      have hr1 := run_append_grow (P := P) w t ty e i z ht hi hz ⟨g, 0, none⟩ n cap xs hown.1 holds a m c news hl hnews (by omega) (by simp only [maxLen] at h63; omega) (growslice_fits (by omega) hbytes)
      rw [hr] at hr1
      simp only [Result.ok.injEq] at hr1
      obtain ⟨rfl, _⟩ := hr1
      intro k hk
      simp [Of, Value.ownBlock] at hk
      exact .inr (by omega)
end

theorem wpList_append_fresh {P : Program} {w : World} {ops : Array Oper} {rest : List Oper} {o : Oper} {a : Act} {Q : Exit → Act → World → Prop} (hgd : o.guard = none) (s x : Operand) (t : TypeId)
    (ho : o.op = .call { callee := .builtin .append, args := #[s, x], argTypes := #[t, t] })
    (e : TypeId) (i : TypeInfo) (z : Value) (size bytes : Nat) (ht : P.underlying t = some (.slice e)) (hi : P.info? e = some i) (hz : i.zero = some z)
    (hsize : i.size = size) (hby : i.bytes = bytes) (hzs : z.cells.size = size) (hsz : 0 < size)
    (v : Value) (n : Nat) (xs : List Value) (hs : a.eval s = v) (hown : Own w e size n v xs)
    (ad : Addr) (m c : Nat) (news : List Value) (hx : a.eval x = .slice (some ad) m c) (hl : news.length = m * size) (hnews : ∀ j u, news[j]? = some u → w.cell? (ad.add j) = some u) (h1 : ∀ u ∈ news, u.oneCell' = true)
    (h63 : n + m ≤ maxLen) (hbytes : (n + m) * bytes ≤ 140737488355328)
    (h : ∀ v' w', Own w' e size (n + m) v' (xs ++ news) → Fr (Of v) w w' → (∀ k, Of v' k → Of v k ∨ w.heap.size ≤ k) → wpList P ops Q rest (a.put o.dst v') w') : wpList P ops Q (o :: rest) a w := by
  refine wpList_plain hgd fun K hK => ?_
  obtain ⟨v', w', hr, h2, h3, h4⟩ := run_append_fresh (P := P) w t o.type e i z size bytes ht hi hz hsize hby hzs hsz v n xs hown ad m c news hl hnews h1 h63 hbytes
  have hk := hK _ _ (h v' w' h2 h3 h4)
  have hrun : (execOp a.eval o).run P w = .ok (.value v') w' := by
    simp only [execOp, ho, resolve, invoke, builtin, Sem.run_bind, Sem.run_pure, Result.andThen_ok, List.map_toArray, List.map_cons, List.map_nil, hs, hx, hr]
  unfold Oper.wp
  rw [hrun]
  exact hk


/-- `append(s, u)`: one element of one cell, which lies in the newest block. -/
theorem wpList_append1 {P : Program} {W : World} {ops : Array Oper} {rest : List Oper} {o : Oper} {a : Act} {Q : Exit → Act → World → Prop} (hgd : o.guard = none) (s x : Operand) (t : TypeId)
    (ho : o.op = .call { callee := .builtin .append, args := #[s, x], argTypes := #[t, t] })
    (e : TypeId) (i : TypeInfo) (z : Value) (bytes : Nat) (ht : P.underlying t = some (.slice e)) (hi : P.info? e = some i) (hz : i.zero = some z)
    (hsize : i.size = 1) (hby : i.bytes = bytes) (hzs : z.cells.size = 1) (hb8 : bytes ≤ 64)
    (v : Value) (n : Nat) (xs : List Value) (hs : a.eval s = v) (u : Value) (te : TypeId) (hown : Own (W.alloc (.cells #[u] te)) e 1 n v xs)
    (g : Nat) (hg : g = W.heap.size) (hx : a.eval x = .slice (some ⟨g, 0, none⟩) 1 1) (h1 : u.oneCell' = true) (hn : n ≤ 1000000000)
    (h : ∀ v' w', Own w' e 1 (n + 1) v' (xs ++ [u]) → Fr (Of v) (W.alloc (.cells #[u] te)) w' → (∀ k, Of v' k → Of v k ∨ W.heap.size ≤ k) → wpList P ops Q rest (a.put o.dst v') w') : wpList P ops Q (o :: rest) a (W.alloc (.cells #[u] te)) := by
  subst hg
  refine wpList_append_fresh hgd s x t ho e i z 1 bytes ht hi hz hsize hby hzs (by decide) v n xs hs hown ⟨W.heap.size, 0, none⟩ 1 1 [u] hx rfl ?_ ?_ (by unfold maxLen; omega) ?_ ?_
  · intro j u' hj
    match j, hj with
    | 0, hj => simp at hj; subst hj; simp [Addr.add]
    | j + 1, hj => simp at hj
  · intro u' hu; simp at hu; subst hu; exact h1
  · have : (n + 1) * bytes ≤ (1000000000 + 1) * 64 := Nat.mul_le_mul (by omega) hb8
    omega
  · intro v' w' h1 h2 h3
    exact h v' w' h1 h2 (fun k hk => (h3 k hk).imp id (fun h => by rw [World.size_alloc] at h; omega))

end Go.Proofs.Ytkclbgoagcpckaa
