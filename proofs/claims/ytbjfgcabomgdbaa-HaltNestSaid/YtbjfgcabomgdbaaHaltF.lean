import Derived.Test.YtbjfgcabomgdbaaHaltE
import Derived.Test.YtbjfgcabomgdbaaOpen
import Derived.LoopTactic
namespace Go.Proofs.Ytbjfgcabomgdbaa
open Go.RowKit

theorem info_func : (Try.prog.info? 1).map (fun i => (i.zero, i.size, i.bytes)) = some (some .nilFunc, 1, 8) := by kernel_rfl

/-- `halt.Run()` of nothing. -/
theorem run_nil (w : World) : Calls Try.prog 17 #[.slice none 0 0] w fun e w' => e = .returned (.tuple #[.int .i64 0, .agg #[.int .i64 0, .int .i64 0]]) ∧ Fr (fun _ => False) w w' := by
  go_enter Try.func17, Try.ntmps17
  go_wp2_with fail
  refine wp_loop_once ?_
  go_wp2_with fail
  exact bodyPost_ret (v := .tuple #[.int .i64 0, .agg #[.int .i64 0, .int .i64 0]]) (by simp [results, go_sem]) rfl ⟨rfl, (Fr.refl _ _).alloc _⟩

/-- the numbers below k, as values -/
def nums (k : Nat) : List Value := (List.range k).map fun (i : Nat) => .int .i64 (i : Int)
theorem nums_succ (k : Nat) : nums (k + 1) = nums k ++ [.int .i64 k] := by simp [nums, List.range_succ]
theorem nums_get (k j : Nat) (h : j < k) : (nums k)[j]? = some (.int .i64 j) := by simp [nums, h]
theorem nums_len (k : Nat) : (nums k).length = k := by simp [nums]

/-- the state of a row of deeds: what was seen -/
def Seen (bs N : Nat) (m : Nat) (bd bk : Nat → Nat) (K A : Nat → Int) (k : Nat) (F : Nat → Prop) (w : World) : Prop :=
  ∃ v, Blk w bs #[v] 27 ∧ Own w 3 1 k v (nums k) ∧ (∀ j, j < m → Blk w (bd j) #[.int .i64 (K j), .int .i64 (A j)] 35 ∧ Blk w (bk j) #[.int .i64 j] 3) ∧
    (∀ x, F x ↔ (x = bs ∨ Of v x ∨ ∃ j, j < m ∧ (x = bd j ∨ x = bk j))) ∧ (∀ x, Of v x → N ≤ x) ∧ (∀ j, j < m → bd j < N ∧ bk j < N) ∧ bs < N ∧ N ≤ w.heap.size

/-- a closure that does a captured deed by its captured number -/
structure DeedFn (g : FuncId) : Prop where
  enter : ∀ a b c w, (callFunc g #[a, b, c]).run Try.prog w = .ok (.enter g #[a, b, c]) w
  any : ∀ (k a i : Int) (bd bk bs : Nat) (v : Value) (n : Nat) (xs : List Value) (w : World), 0 ≤ i → i ≤ 1000000 → Blk w bd #[.int .i64 k, .int .i64 a] 35 → Blk w bk #[.int .i64 i] 3 →
    Blk w bs #[v] 27 → Own w 3 1 n v xs → n ≤ 1000000 →
    Calls Try.prog g #[.pointer (some ⟨bd, 0, none⟩), .pointer (some ⟨bk, 0, none⟩), .pointer (some ⟨bs, 0, none⟩)] w fun e w' =>
      Tame (outD k a) e ∧ ∃ v', Blk w' bs #[v'] 27 ∧ Own w' 3 1 (n + 1) v' (xs ++ [.int .i64 i]) ∧ Fr (fun j => j = bs ∨ Of v j) w w' ∧ ∀ j, Of v' j → Of v j ∨ w.heap.size ≤ j

theorem rows_fn : DeedFn 23 := ⟨fun a b c w => by simp [go_sem], rowsDeed⟩

/-- the closures -/
def deedFns (g : FuncId) (bs : Nat) (m : Nat) (bd bk : Nat → Nat) : List (FuncId × Array Value) :=
  (List.range m).map fun j => (g, #[.pointer (some ⟨bd j, 0, none⟩), .pointer (some ⟨bk j, 0, none⟩), .pointer (some ⟨bs, 0, none⟩)])

theorem seen_deeds {g : FuncId} (hg : DeedFn g) (bs N : Nat) (m : Nat) (hm : m ≤ 1000) (bd bk : Nat → Nat) (K A : Nat → Int) : Deeds (deedFns g bs m bd bk) (fun i => outD (K i) (A i)) (Seen bs N m bd bk K A) where
  enter := by
    intro i p h w
    simp only [deedFns, List.getElem?_map] at h
    cases hr : (List.range m)[i]? with
    | none => rw [hr] at h; simp at h
    | some j => rw [hr] at h; simp at h; subst h; exact hg.enter _ _ _ _
  stable := by
    rintro i F w w' ⟨v, h1, h2, h3, h4, h5, h6, h7, h8⟩ hf
    refine ⟨v, h1.fr hf (fun h => h ((h4 bs).2 (.inl rfl))), h2.fr hf (fun k hk h => h ((h4 k).2 (.inr (.inl hk)))), fun j hj => ⟨(h3 j hj).1.fr hf (fun h => h ((h4 _).2 (.inr (.inr ⟨j, hj, .inl rfl⟩)))), (h3 j hj).2.fr hf (fun h => h ((h4 _).2 (.inr (.inr ⟨j, hj, .inr rfl⟩))))⟩, h4, h5, h6, h7, Nat.le_trans h8 hf.size⟩
  lt := by
    rintro i F w ⟨v, h1, h2, h3, h4, h5, h6, h7, h8⟩ k hk
    rcases (h4 k).1 hk with rfl | h | ⟨j, hj, rfl | rfl⟩
    · exact h1.lt
    · exact h2.lt h
    · exact (h3 j hj).1.lt
    · exact (h3 j hj).2.lt
  run := by
    rintro i p h hj F w ⟨v, h1, h2, h3, h4, h5, h6, h7, h8⟩
    simp only [deedFns, List.getElem?_map] at h
    have hi : i < m := by
      rcases Nat.lt_or_ge i m with h' | h'
      · exact h'
      · simp [h'] at h
    simp [hi] at h
    subst h
    have hbd := (h3 i hi).1
    have hbk := (h3 i hi).2
    refine (hg.any (K i) (A i) i (bd i) (bk i) bs v i (nums i) w (by omega) (by omega) hbd hbk h1 h2 (by omega)).mono ?_
    rintro e w' ⟨ht, v', b1, o1, f1, hv⟩
    refine ⟨ht, f1.mono (fun k _ hk => (h4 k).2 (hk.imp id .inl)), fun x => x = bs ∨ Of v' x ∨ ∃ j, j < m ∧ (x = bd j ∨ x = bk j), ⟨v', b1, by rw [nums_succ]; exact o1, ?_, fun x => Iff.rfl, ?_, h6, h7, Nat.le_trans h8 f1.size⟩, ?_⟩
    · intro j hj
      have a1 := h6 j hj
      have n1 : bd j ≠ bs := (h3 j hj).1.ne h1 (.inr (by decide))
      have n2 : bk j ≠ bs := (h3 j hj).2.ne h1 (.inr (by decide))
      exact ⟨(h3 j hj).1.fr f1 (fun h => h.elim n1 (fun h => by have := h5 _ h; omega)), (h3 j hj).2.fr f1 (fun h => h.elim n2 (fun h => by have := h5 _ h; omega))⟩
    · intro x hx
      rcases hv x hx with h | h
      · exact h5 x h
      · omega
    · intro k hk
      rcases hk with rfl | h | h
      · exact .inl ((h4 _).2 (.inl rfl))
      · exact (hv k h).imp (fun h => (h4 _).2 (.inr (.inl h))) id
      · exact .inl ((h4 _).2 (.inr (.inr h)))
end Go.Proofs.Ytbjfgcabomgdbaa
