import Derived.Test.YtkclbgoagcpckaaTickO
import Derived.Deep.Cut
import Derived.Deep.CutRange
import Derived.Deep.DeepCutAuto
namespace Go.Proofs.Ytkclbgoagcpckaa
open Go.RowKit

def bs2 (j : Nat) : Nat := 1 + 2 * (j % 2)
theorem bs2_bd (j : Nat) : bs2 j = 1 ∨ bs2 j = 3 := by unfold bs2; omega

theorem nd_ne {l : List Nat} (h : l.Nodup) (i j : Nat) {x y : Nat} (hx : l[i]? = some x) (hy : l[j]? = some y) (hij : i ≠ j) : x ≠ y := by
  intro e
  subst e
  obtain ⟨h1, h2⟩ := List.getElem?_eq_some_iff.1 hx
  obtain ⟨h3, h4⟩ := List.getElem?_eq_some_iff.1 hy
  exact hij ((List.getElem_inj h).1 (h2.trans h4.symm))

/-- blocks that lie apart from the tries -/
structure PD (w0 : World) (m g k : Nat) (v : Value) (tb : Nat → Nat) (l : List Nat) : Prop where
  ap : Apart w0 m g k v tb
  d : ∀ y, y ∈ l → w0.heap.size ≤ y ∧ y ≠ m ∧ y ≠ g ∧ ¬ Of v y ∧ ∀ i, i < k → y ≠ tb i
  nd : l.Nodup

/-- the tries, and the law's own books -/
structure PS (w0 : World) (m g k : Nat) (v : Value) (tb : Nat → Nat) (bm bt ba bk bb bn bu bl : Nat) (sl : Value) (V : Nat → Int) (c : Int) (at_ tk nx tr : Nat → Int) (w : World) : Prop where
  s : TrySt w0 m g 6 k v tb (fun j => (bs2 j : Int)) V c at_ tk w
  M : Blk w bm #[.pointer (some ⟨m, 0, none⟩)] 22
  T : Blk w bt #[v] 32
  A : Arr w ba k (fun j => .int .i64 (at_ j)) 3
  K : Arr w bk k (fun j => .int .i64 (tk j)) 3
  B : Arr w bb k (fun j => .int .i64 (bs2 j : Nat)) 3
  N : Arr w bn 4 (fun j => .int .i64 (nx j)) 36
  U : Arr w bu 4 (fun j => .int .i64 (tr j)) 36
  L : Blk w bl #[sl] 35
  hn : nx 1 = V 1 ∧ nx 3 = V 3 ∧ tr 1 = V 2 ∧ tr 3 = V 4
  st : ∀ j, j < k → 0 ≤ at_ j ∧ at_ j ≤ 3 ∧ -1 ≤ tk j ∧ tk j ≤ c
  bd : ∀ q, 0 ≤ V q ∧ V q ≤ c

section
variable {w0 : World} {m g k : Nat} {v : Value} {tb : Nat → Nat} {bm bt ba bk bb bn bu bl : Nat} {sl : Value} {V : Nat → Int} {c : Int} {at_ tk nx tr : Nat → Int} {w : World}
theorem PS.fr (h : PS w0 m g k v tb bm bt ba bk bb bn bu bl sl V c at_ tk nx tr w) {w' : World} (f : Fr (fun _ => False) w w') : PS w0 m g k v tb bm bt ba bk bb bn bu bl sl V c at_ tk nx tr w' :=
  ⟨⟨h.s.M.fr f id id, h.s.T.fr f (fun _ _ => id) (fun _ _ => id), h.s.F.trans f⟩, h.M.fr f id, h.T.fr f id, h.A.fr f id, h.K.fr f id, h.B.fr f id, h.N.fr f id, h.U.fr f id, h.L.fr f id, h.hn, h.st, h.bd⟩

/-- the law's books alone -/
structure PB (k bm bt ba bk bb bn bu bl : Nat) (m : Nat) (v sl : Value) (at_ tk nx tr : Nat → Int) (w : World) : Prop where
  M : Blk w bm #[.pointer (some ⟨m, 0, none⟩)] 22
  T : Blk w bt #[v] 32
  A : Arr w ba k (fun j => .int .i64 (at_ j)) 3
  K : Arr w bk k (fun j => .int .i64 (tk j)) 3
  B : Arr w bb k (fun j => .int .i64 (bs2 j : Nat)) 3
  N : Arr w bn 4 (fun j => .int .i64 (nx j)) 36
  U : Arr w bu 4 (fun j => .int .i64 (tr j)) 36
  L : Blk w bl #[sl] 35
theorem PS.books (h : PS w0 m g k v tb bm bt ba bk bb bn bu bl sl V c at_ tk nx tr w) : PB k bm bt ba bk bb bn bu bl m v sl at_ tk nx tr w := ⟨h.M, h.T, h.A, h.K, h.B, h.N, h.U, h.L⟩
theorem PB.fr {S : Nat → Prop} (h : PB k bm bt ba bk bb bn bu bl m v sl at_ tk nx tr w) {w' : World} (f : Fr S w w') (hs : ∀ y, y ∈ [bm, bt, ba, bk, bb, bn, bu, bl] → ¬ S y) : PB k bm bt ba bk bb bn bu bl m v sl at_ tk nx tr w' :=
  ⟨h.M.fr f (hs _ (by simp)), h.T.fr f (hs _ (by simp)), h.A.fr f (hs _ (by simp)), h.K.fr f (hs _ (by simp)), h.B.fr f (hs _ (by simp)), h.N.fr f (hs _ (by simp)), h.U.fr f (hs _ (by simp)), h.L.fr f (hs _ (by simp))⟩
theorem PB.setA (h : PB k bm bt ba bk bb bn bu bl m v sl at_ tk nx tr w) (nd : [bm, bt, ba, bk, bb, bn, bu, bl].Nodup) (j : Nat) (x : Int) : PB k bm bt ba bk bb bn bu bl m v sl (upd at_ j x) tk nx tr (w.setCell ⟨ba, j, none⟩ (.int .i64 x)) := by
  exact ⟨h.M.other (nd_ne nd 2 0 rfl rfl (by decide)) _, h.T.other (nd_ne nd 2 1 rfl rfl (by decide)) _, (h.A.set j _).congr (fun q _ => by simp only [upd]; split <;> rfl), h.K.other (nd_ne nd 2 3 rfl rfl (by decide)) _, h.B.other (nd_ne nd 2 4 rfl rfl (by decide)) _, h.N.other (nd_ne nd 2 5 rfl rfl (by decide)) _, h.U.other (nd_ne nd 2 6 rfl rfl (by decide)) _, h.L.other (nd_ne nd 2 7 rfl rfl (by decide)) _⟩
theorem PB.setK (h : PB k bm bt ba bk bb bn bu bl m v sl at_ tk nx tr w) (nd : [bm, bt, ba, bk, bb, bn, bu, bl].Nodup) (j : Nat) (x : Int) : PB k bm bt ba bk bb bn bu bl m v sl at_ (upd tk j x) nx tr (w.setCell ⟨bk, j, none⟩ (.int .i64 x)) := by
  exact ⟨h.M.other (nd_ne nd 3 0 rfl rfl (by decide)) _, h.T.other (nd_ne nd 3 1 rfl rfl (by decide)) _, h.A.other (nd_ne nd 3 2 rfl rfl (by decide)) _, (h.K.set j _).congr (fun q _ => by simp only [upd]; split <;> rfl), h.B.other (nd_ne nd 3 4 rfl rfl (by decide)) _, h.N.other (nd_ne nd 3 5 rfl rfl (by decide)) _, h.U.other (nd_ne nd 3 6 rfl rfl (by decide)) _, h.L.other (nd_ne nd 3 7 rfl rfl (by decide)) _⟩
theorem PB.setN (h : PB k bm bt ba bk bb bn bu bl m v sl at_ tk nx tr w) (nd : [bm, bt, ba, bk, bb, bn, bu, bl].Nodup) (j : Nat) (x : Int) : PB k bm bt ba bk bb bn bu bl m v sl at_ tk (upd nx j x) tr (w.setCell ⟨bn, j, none⟩ (.int .i64 x)) := by
  exact ⟨h.M.other (nd_ne nd 5 0 rfl rfl (by decide)) _, h.T.other (nd_ne nd 5 1 rfl rfl (by decide)) _, h.A.other (nd_ne nd 5 2 rfl rfl (by decide)) _, h.K.other (nd_ne nd 5 3 rfl rfl (by decide)) _, h.B.other (nd_ne nd 5 4 rfl rfl (by decide)) _, (h.N.set j _).congr (fun q _ => by simp only [upd]; split <;> rfl), h.U.other (nd_ne nd 5 6 rfl rfl (by decide)) _, h.L.other (nd_ne nd 5 7 rfl rfl (by decide)) _⟩
theorem PB.setU (h : PB k bm bt ba bk bb bn bu bl m v sl at_ tk nx tr w) (nd : [bm, bt, ba, bk, bb, bn, bu, bl].Nodup) (j : Nat) (x : Int) : PB k bm bt ba bk bb bn bu bl m v sl at_ tk nx (upd tr j x) (w.setCell ⟨bu, j, none⟩ (.int .i64 x)) := by
  exact ⟨h.M.other (nd_ne nd 6 0 rfl rfl (by decide)) _, h.T.other (nd_ne nd 6 1 rfl rfl (by decide)) _, h.A.other (nd_ne nd 6 2 rfl rfl (by decide)) _, h.K.other (nd_ne nd 6 3 rfl rfl (by decide)) _, h.B.other (nd_ne nd 6 4 rfl rfl (by decide)) _, h.N.other (nd_ne nd 6 5 rfl rfl (by decide)) _, (h.U.set j _).congr (fun q _ => by simp only [upd]; split <;> rfl), h.L.other (nd_ne nd 6 7 rfl rfl (by decide)) _⟩
/-- behind the law's own stores -/
theorem PS.of (D : PD w0 m g k v tb [bm, bt, ba, bk, bb, bn, bu, bl]) {w' : World} {S : Nat → Prop} (s : TrySt w0 m g 6 k v tb (fun j => (bs2 j : Int)) V c at_ tk w) (f : Fr S w w') (hS : ∀ y, S y → y ∈ [ba, bk, bn, bu] ∨ w.heap.size ≤ y ∨ (w0.heap.size ≤ y ∧ y ≠ m ∧ y ≠ g ∧ ¬ Of v y ∧ ∀ i, i < k → y ≠ tb i)) (b : PB k bm bt ba bk bb bn bu bl m v sl at_ tk nx tr w')
    (hn : nx 1 = V 1 ∧ nx 3 = V 3 ∧ tr 1 = V 2 ∧ tr 3 = V 4) (st : ∀ j, j < k → 0 ≤ at_ j ∧ at_ j ≤ 3 ∧ -1 ≤ tk j ∧ tk j ≤ c) (bd : ∀ q, 0 ≤ V q ∧ V q ≤ c) : PS w0 m g k v tb bm bt ba bk bb bn bu bl sl V c at_ tk nx tr w' := by
  have hs : ∀ y, S y → y < w.heap.size → w0.heap.size ≤ y ∧ y ≠ m ∧ y ≠ g ∧ ¬ Of v y ∧ ∀ i, i < k → y ≠ tb i := fun y hy hlt => by
    rcases hS y hy with h | h | h
    · refine D.d y ?_
      simp at h ⊢
      omega
    · omega
    · exact h
  have hsz := s.F.size
  refine ⟨⟨s.M.fr f (fun h => (hs m h s.M.h.lt).2.1 rfl) (fun h => (hs g h s.M.a.lt).2.2.1 rfl), s.T.fr f (fun x hx h => (hs x h (by obtain ⟨xs, ho, _⟩ := s.T.own; exact ho.lt hx)).2.2.2.1 hx) (fun j hj h => (hs _ h (s.T.t j hj).lt).2.2.2.2 j hj rfl), s.F.step f (fun x hx h => by have := (hs x h (by omega)).1; omega)⟩, b.M, b.T, b.A, b.K, b.B, b.N, b.U, b.L, hn, st, bd⟩
end

/-- the first i tries were made -/
def MadeP (w0 : World) (m g k bm bt ba bk bb bl : Nat) (sl : Value) (t11 : Value) (w : World) : Prop :=
  ∃ (i : Nat) (v : Value) (tb : Nat → Nat), i ≤ k ∧ t11 = .int .i64 i ∧ Mem w m g 6 (fun _ => 0) 0 ∧ Tries w v i tb (fun j => (bs2 j : Int)) (fun _ => 0) (fun _ => -1) ∧ Fr (fun _ => False) w0 w ∧
    Blk w bm #[.pointer (some ⟨m, 0, none⟩)] 22 ∧ Blk w bt #[v] 32 ∧ Arr w ba k (fun _ => .int .i64 0) 3 ∧ Arr w bk k (fun j => .int .i64 (if j < i then -1 else 0)) 3 ∧
    Arr w bb k (fun j => .int .i64 (if j < i then (bs2 j : Int) else 0)) 3 ∧ Blk w bl #[sl] 35 ∧ PD w0 m g i v tb [bm, bt, ba, bk, bb, bl]
end Go.Proofs.Ytkclbgoagcpckaa
