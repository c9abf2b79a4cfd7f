import Derived.Test.YtoifefcbegdjdaaRankB
namespace Go.Proofs.Ytoifefcbegdjdaa
open Go.RowKit

theorem Fr.cellAt {w w' : World} (f : Fr (fun _ => False) w w') {b o : Nat} {u : Value} (hb : b < w.heap.size) (h : w.cell? ⟨b, o, none⟩ = some u) : w'.cell? ⟨b, o, none⟩ = some u := (World.cell?_of_block (f.block b hb id)).trans h

def LO (a b : Nat) (own : List Int) (j : Nat) : List Int := if j = a then own else if j = b then [1000] else []
def OOw (a b : Nat) (own : List Int) (r : Int) : Option Int := if r ∈ own then some (a : Int) else if r = 1000 then some (b : Int) else none

theorem rise_inj {l : List Int} (h : l.Pairwise (· < ·)) {i j : Nat} {hi : i < l.length} {hj : j < l.length} (e : l[i] = l[j]) : i = j := by
  rw [List.pairwise_iff_getElem] at h
  rcases Nat.lt_trichotomy i j with h1 | h1 | h1
  · have := h i j hi hj h1; omega
  · exact h1
  · have := h j i hj hi h1; omega

/-- one has what is in own, another 1000; the keeper and the one's number lie in variables -/
structure OwnSt (w0 : World) (x k bx ba a b : Nat) (own : List Int) (F : Nat → Prop) (w : World) : Prop where
  s : RankSt w0 x k bx (LO a b own) (OOw a b own) F w
  A : Blk w ba #[.int .i64 a] 3
  d : ¬ F ba

section
variable {w0 : World} {x k bx ba a b : Nat} {own : List Int} {F : Nat → Prop} {w : World} (h : OwnSt w0 x k bx ba a b own F w)
include h
theorem OwnSt.fr {w' : World} (f : Fr (fun _ => False) w w') : OwnSt w0 x k bx ba a b own F w' := ⟨h.s.fr f, h.A.fr f id, h.d⟩
theorem OwnSt.frS {S : Nat → Prop} {w' : World} (f : Fr S w w') (hs : ∀ q, S q → ¬ F q ∧ w0.heap.size ≤ q ∧ q ≠ bx ∧ q ≠ ba) : OwnSt w0 x k bx ba a b own F w' :=
  ⟨h.s.frS f (fun q hq hS => (hs q hS).1 hq) (fun hS => (hs bx hS).2.2.1 rfl) (fun q hS => (hs q hS).2.1), h.A.fr f (fun hS => (hs ba hS).2.2.2 rfl), h.d⟩
theorem OwnSt.take (hak : a < k) (r : Int) (hr : 0 ≤ r ∧ r < 1000) (hlt : ∀ y ∈ own, y < r) (hz : own.length < 1000) :
    Calls Try.prog 24 #[.pointer (some ⟨x, 0, none⟩), .int .i64 a, .int .i64 r] w fun e w' => e = .returned (.tuple #[]) ∧ ∃ F', OwnSt w0 x k bx ba a b (own ++ [r]) F' w' ∧ Fr F w w' ∧ ∀ q, F' q → F q ∨ w.heap.size ≤ q := by
  have e0 : LO a b own a = own := by unfold LO; rw [if_pos rfl]
  have hn : r ∉ own := fun hm => by have := hlt r hm; omega
  refine (rank_take x k (LO a b own) (OOw a b own) F a w h.s.H hak r (by rw [e0]; exact ⟨hr.1, fun y hy => hlt y (List.mem_of_getLast? hy)⟩) (by unfold OOw; rw [if_neg hn, if_neg (by omega)]) (by rw [e0]; omega)).mono ?_
  rintro e w' ⟨rfl, f, F', H, hF⟩
  refine ⟨rfl, F', ⟨(h.s.to f H hF).congr (fun j _ => ?_) (fun q => ?_), h.A.fr f h.d, fun hb => (hF _ hb).elim h.d (fun hb => by have := h.A.lt; omega)⟩, f, hF⟩
  · rw [e0]
    simp only [LO, upd]
    by_cases e1 : j = a
    · rw [if_pos e1, if_pos e1]
    · rw [if_neg e1, if_neg e1, if_neg e1]
  · simp only [OOw, List.mem_append, List.mem_singleton]
    by_cases e1 : q = r
    · simp [e1]
    · simp [e1]
theorem OwnSt.letgo (hak : a < k) (j : Nat) (hj : j < own.length) (hnd : own.Pairwise (· < ·)) (hbd : ∀ y ∈ own, y < 1000) :
    Calls Try.prog 27 #[.pointer (some ⟨x, 0, none⟩), .int .i64 a, .int .i64 own[j]] w fun e w' => e = .returned (.tuple #[]) ∧ OwnSt w0 x k bx ba a b (own.eraseIdx j) F w' ∧ Fr F w w' := by
  have e0 : LO a b own a = own := by unfold LO; rw [if_pos rfl]
  refine (rank_let x k (LO a b own) (OOw a b own) F a w h.s.H hak own[j] j (by rw [e0]; exact List.getElem?_eq_getElem hj) (fun i hi hc => ?_)).mono ?_
  · rw [e0] at hc
    obtain ⟨h1, h2⟩ := List.getElem?_eq_some_iff.1 hc
    have := rise_inj hnd h2
    omega
  · rintro e w' ⟨rfl, f, H⟩
    refine ⟨rfl, ⟨(h.s.to f H (fun _ => .inl)).congr (fun i _ => ?_) (fun q => ?_), h.A.fr f h.d, h.d⟩, f⟩
    · rw [e0]
      simp only [LO, upd]
      by_cases e1 : i = a
      · rw [if_pos e1, if_pos e1]
      · rw [if_neg e1, if_neg e1, if_neg e1]
    · simp only [OOw]
      have hm : ∀ q, q ∈ own.eraseIdx j ↔ q ∈ own ∧ q ≠ own[j] := fun q => by
        rw [List.mem_eraseIdx_iff_getElem]
        constructor
        · rintro ⟨i, hi, hne, rfl⟩
          refine ⟨List.getElem_mem _, fun e => hne ?_⟩
          exact rise_inj hnd e
        · rintro ⟨hq, hne⟩
          obtain ⟨i, hi, rfl⟩ := List.getElem_of_mem hq
          exact ⟨i, hi, fun e => hne (by subst e; rfl), rfl⟩
      by_cases e1 : q = own[j]
      · rw [if_pos e1, if_neg (fun h => ((hm q).1 h).2 e1), if_neg (by rw [e1]; have := hbd own[j] (List.getElem_mem _); omega)]
      · rw [if_neg e1]
        by_cases e2 : q ∈ own
        · rw [if_pos e2, if_pos ((hm q).2 ⟨e2, e1⟩)]
        · rw [if_neg e2, if_neg (fun h => e2 ((hm q).1 h).1)]
end
end Go.Proofs.Ytoifefcbegdjdaa
