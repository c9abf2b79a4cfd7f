import Derived.Test.YtoifefcbegdjdaaSli2
import Derived.Test.YtoifefcbegdjdaaMapB
import Derived.Test.YtoifefcbegdjdaaArr
import Derived.Test.YtoifefcbegdjdaaHaltB
import Derived.Deep.QuietTactic
import Derived.BigQuiet
import Derived.RegionDies
import Derived.IntWalk
namespace Go.Proofs.Ytoifefcbegdjdaa
open Go.RowKit

theorem must_ok (why at_ : Int) (w : World) :
    Calls Try.prog 54 #[.bool true, .int .i64 why, .int .i64 at_] w fun e w' => e = .returned (.tuple #[]) ∧ w = w' := (must_true why at_ w).mono fun _ _ h => ⟨h.1, h.2.symm⟩
theorem must_no (why at_ : Int) (w : World) :
    Calls Try.prog 54 #[.bool false, .int .i64 why, .int .i64 at_] w fun e w' => e = .panicked [{ v := .iface 30 (.agg #[.int .i64 why, .int .i64 at_]), recovered := false }] ∧ w = w' := (must_false why at_ w).mono fun _ _ h => ⟨h.1, h.2.symm⟩

abbrev kint : Int → Value := fun k => .int .i64 k

/-- who holds what: the lists L, the owners O; the blocks F -/
structure HeldB (w : World) (x g b n : Nat) (v : Nat → Value) (L : Nat → List Int) (O : Int → Option Int) (F : Nat → Prop) : Prop where
  h : Blk w x #[.slice (some ⟨g, 0, none⟩) n n, .map (some b)] 85
  a : Arr w g n v 24
  l : ∀ i, i < n → Own w 3 1 (L i).length (v i) (ints (L i))
  ap : ∀ i j k, i < n → j < n → Of (v i) k → Of (v j) k → i = j
  m : ∃ l, MapB kint w b l ∧ (keysA l).Nodup ∧ ∀ k, getA l k = (O k).map kint
  fx : F x ∧ F g ∧ F b
  fl : ∀ i k, i < n → Of (v i) k → F k
  sz : ∀ i, i < n → (L i).length ≤ 100000
  fb : ∀ k, F k → k < w.heap.size
def Held (w : World) (x n : Nat) (L : Nat → List Int) (O : Int → Option Int) (F : Nat → Prop) : Prop := ∃ g b v, HeldB w x g b n v L O F

theorem HeldB.fr {w w' : World} {x g b n : Nat} {v : Nat → Value} {L : Nat → List Int} {O : Int → Option Int} {F S : Nat → Prop} (h : HeldB w x g b n v L O F) (f : Fr S w w') (hs : ∀ k, F k → ¬ S k) : HeldB w' x g b n v L O F :=
  ⟨h.h.fr f (hs _ h.fx.1), h.a.fr f (hs _ h.fx.2.1), fun i hi => (h.l i hi).fr f (fun k hk => hs _ (h.fl i k hi hk)), h.ap, h.m.elim fun l m => ⟨l, m.1.fr f (hs _ h.fx.2.2), m.2⟩, h.fx, h.fl, h.sz, fun k hk => Nat.lt_of_lt_of_le (h.fb k hk) f.size⟩
theorem Held.lt {w : World} {x n : Nat} {L : Nat → List Int} {O : Int → Option Int} {F : Nat → Prop} (h : Held w x n L O F) {k : Nat} (hk : F k) : k < w.heap.size := by
  obtain ⟨g, b, v, h⟩ := h
  exact h.fb k hk
theorem Held.fr {w w' : World} {x n : Nat} {L : Nat → List Int} {O : Int → Option Int} {F S : Nat → Prop} (h : Held w x n L O F) (f : Fr S w w') (hs : ∀ k, F k → ¬ S k) : Held w' x n L O F := by
  obtain ⟨g, b, v, h⟩ := h
  exact ⟨g, b, v, h.fr f hs⟩

theorem info_ints : (Try.prog.info? 24).map (fun i => (i.zero, i.size, i.bytes)) = some (some (.slice none 0 0), 1, 24) := by kernel_rfl

theorem rank_new (n : Nat) (hn : 1 ≤ n ∧ n ≤ 64) (w : World) :
    Calls Try.prog 23 #[.int .i64 n] w fun e w' => e = .returned (.pointer (some ⟨w.heap.size + 2, 0, none⟩)) ∧ Fr (fun _ => False) w w' ∧ Held w' (w.heap.size + 2) n (fun _ => []) (fun _ => none) (fun k => w.heap.size ≤ k ∧ k < w.heap.size + 3) := by
  have hmk := made1 Try.prog 83 24 (.slice none 0 0) 24 Try.underlying83 info_ints rfl n (by omega) (by omega)
  have hmm := fun w => run_makeMap (P := Try.prog) 46 w
  obtain ⟨hn1, hn2⟩ := hn
  have hn1' : (1 : Int) ≤ n := by omega
  have hn2' : (n : Int) ≤ 64 := by omega
  go_enter Try.func23, Try.ntmps23
  go_wp2_with (go_at_call 54; refine (must_ok _ _ _).mono ?_; rintro e w' ⟨rfl, rfl⟩)
  go_ret
  refine ⟨by simp, (((Fr.refl _ _).alloc _).alloc _).alloc _, w.heap.size, w.heap.size + 1, fun _ => .slice none 0 0, ⟨Blk.at_new (by simp), ((Arr.at_new _ _ rfl).alloc _).alloc _, fun i hi => Own.nil _ _ _, fun i j k _ _ h => by simp [Of, Value.ownBlock] at h, ⟨[], (MapB.new _ _ (by simp)).alloc _, by simp [keysA], fun k => rfl⟩, by omega, fun i k _ h => by simp [Of, Value.ownBlock] at h, fun i hi => by simp, fun k hk => by simp; omega⟩⟩

theorem rank_of (x n : Nat) (L : Nat → List Int) (O : Int → Option Int) (F : Nat → Prop) (g b : Nat) (v : Nat → Value) (i : Nat) (w : World) (h : HeldB w x g b n v L O F) (hi : i < n) :
    Calls Try.prog 64 #[.pointer (some ⟨x, 0, none⟩), .int .i64 i] w fun e w' => e = .returned (.pointer (some ⟨g, i, none⟩)) ∧ w = w' := by
  have h0 := h.h.cell 0
  have hi' : (i : Int) < n := by omega
  clear h hi
  go_enter Try.func64, Try.ntmps64
  go_wp2_with (go_at_call 54; refine (must_ok _ _ _).mono ?_; rintro e w' ⟨rfl, rfl⟩)
  go_ret
  exact ⟨rfl, rfl⟩

theorem HeldB.look {w : World} {x g b n : Nat} {v : Nat → Value} {L : Nat → List Int} {O : Int → Option Int} {F : Nat → Prop} (h : HeldB w x g b n v L O F) (r : Int) :
    (Instr.lookup 46 (.map (some b)) (.int .i64 r) true).run Try.prog w = .ok (.tuple #[.int .i64 ((O r).getD 0), .bool (O r).isSome]) w := by
  obtain ⟨l, m, _, hm⟩ := h.m
  have := m.lookup (key_int Try.underlying3) Try.underlying46 r (.int .i64 0) zero_i64 true
  rw [hm r] at this
  rw [this]
  cases O r <;> rfl

theorem HeldB.drewN {w : World} {x g b n : Nat} {v : Nat → Value} {L : Nat → List Int} {O : Int → Option Int} {F : Nat → Prop} (h : HeldB w x g b n v L O F) (q : Nat) : HeldB (w.drewN q) x g b n v L O F :=
  h.fr (S := fun _ => False) ⟨rfl, rfl, rfl, Nat.le_refl _, fun _ _ _ => rfl⟩ (fun _ _ => id)
theorem Own.ne_map {w : World} {e : TypeId} {n b : Nat} {v : Value} {xs : List Value} {l : List (Int × Value)} (h : Own w e 1 n v xs) (m : MapB kint w b l) : ¬ Of v b := by
  intro hk
  obtain ⟨es, clk, hm, _⟩ := m
  rcases h.2 with ⟨rfl, _⟩ | ⟨g, cap, cur, rfl, _, hgg, _⟩
  · simp [Of, Value.ownBlock] at hk
  · simp [Of, Value.ownBlock] at hk
    subst hk
    rw [hgg] at hm
    simp at hm

/-- behind a Take -/
theorem HeldB.taken {w w2 w3 : World} {x g b n i : Nat} {v : Nat → Value} {L : Nat → List Int} {O : Int → Option Int} {F : Nat → Prop} (h : HeldB w x g b n v L O F) (hi : i < n) (hz : (L i).length < 100000) (r : Int) {l l' : List (Int × Value)} {o : Obj}
    (hl1 : (keysA l).Nodup) (hl2 : ∀ k, getA l k = (O k).map kint) (hl' : l' = insA l r (.int .i64 i))
    (M2 : MapB kint w2 b l') (F2 : Fr (fun k => k = b) w w2) {v' : Value} (O3 : Own w3 3 1 ((L i).length + 1) v' (ints (L i) ++ [.int .i64 r])) (F3 : Fr (Of (v i)) (w2.alloc o) w3) (hv' : ∀ k, Of v' k → Of (v i) k ∨ w2.heap.size ≤ k) :
    HeldB (w3.setCell ⟨g, i, none⟩ v') x g b n (upd v i v') (upd L i (L i ++ [r])) (fun k => if k = r then some (i : Int) else O k) (fun k => F k ∨ Of v' k) ∧ Fr F w (w3.setCell ⟨g, i, none⟩ v') ∧ ∀ k, Of v' k → F k ∨ w.heap.size ≤ k := by
  obtain ⟨l0, m0, _⟩ := h.m
  obtain ⟨c, hc, hc2⟩ := h.a
  have hbg : b ≠ g := m0.ne hc
  have hbx : b ≠ x := m0.ne h.h
  have hgx : g ≠ x := h.a.ne h.h (by decide)
  have hog : ∀ j, j < n → ¬ Of (v j) g := fun j hj => (h.l j hj).ne hc (by decide)
  have hox : ∀ j, j < n → ¬ Of (v j) x := fun j hj => (h.l j hj).ne h.h (by decide)
  have hob : ∀ j, j < n → ¬ Of (v j) b := fun j hj => (h.l j hj).ne_map m0
  have f1 : Fr (fun k => k = b ∨ Of (v i) k) w w3 := ((F2.mono (T := fun k => k = b ∨ Of (v i) k) (fun _ _ h => .inl h)).alloc o).step F3 (fun _ _ h => .inr h)
  have f2 : Fr (fun k => k = b ∨ Of (v i) k ∨ k = g) w (w3.setCell ⟨g, i, none⟩ v') := (f1.mono (fun k _ h => h.elim .inl (fun h => .inr (.inl h)))).setCell (fun _ => .inr (.inr rfl)) _
  have hlt : ∀ j k, j < n → Of (v j) k → k < w.heap.size := fun j k hj hk => (h.l j hj).lt hk
  have hs2 := F2.size
  refine ⟨⟨h.h.fr f2 (fun hh => hh.elim (fun e => hbx e.symm) (fun hh => hh.elim (hox i hi) (fun e => hgx e.symm))), ?_, fun j hj => ?_, fun j j' k hj hj' h1 h2 => ?_, ⟨l', (((M2.alloc o).fr F3 (hob i hi)).fr (Fr.set1 _ _ _ _) hbg), ?_, ?_⟩, ⟨.inl h.fx.1, .inl h.fx.2.1, .inl h.fx.2.2⟩, fun j k hj hk => ?_, fun j hj => ?_, fun k hk => ?_⟩, f2.mono (fun k _ hk => ?_), fun k hk => ?_⟩
  · exact ((h.a.fr f1 (fun hh => hh.elim (fun e => hbg e.symm) (hog i hi))).set i v')
  · by_cases e : j = i
    · subst e
      rw [upd_self, upd_self]
      have hne : ¬ Of v' g := fun hg => by
        rcases hv' g hg with h' | h'
        · exact hog j hj h'
        · have := hc.lt; omega
      have o4 := O3.fr (Fr.set1 w3 g j v') (fun k hk e => hne (e ▸ hk))
      simpa [ints] using o4
    · rw [upd_ne _ _ e, upd_ne _ _ e]
      exact (h.l j hj).fr f2 (fun k hk => by
        rintro (e2 | e2 | e2)
        · exact hob j hj (e2 ▸ hk)
        · exact e (h.ap j i k hj hi hk e2)
        · exact hog j hj (e2 ▸ hk))
  · by_cases e : j = i
    · by_cases e' : j' = i
      · omega
      · subst e
        rw [upd_self] at h1
        rw [upd_ne _ _ e'] at h2
        rcases hv' k h1 with h' | h'
        · exact h.ap j j' k hj hj' h' h2
        · have := hlt j' k hj' h2; omega
    · by_cases e' : j' = i
      · subst e'
        rw [upd_self] at h2
        rw [upd_ne _ _ e] at h1
        rcases hv' k h2 with h' | h'
        · exact h.ap j j' k hj hj' h1 h'
        · have := hlt j k hj h1; omega
      · rw [upd_ne _ _ e] at h1
        rw [upd_ne _ _ e'] at h2
        exact h.ap j j' k hj hj' h1 h2
  · subst hl'; exact nodup_ins hl1 _ _
  · intro k
    subst hl'
    rw [getA_ins]
    split
    · rfl
    · exact hl2 k
  · by_cases e : j = i
    · subst e; rw [upd_self] at hk; exact .inr hk
    · rw [upd_ne _ _ e] at hk; exact .inl (h.fl j k hj hk)
  · by_cases e : j = i
    · subst e; rw [upd_self]; simp; omega
    · rw [upd_ne _ _ e]; exact h.sz j hj
  · have hs3 : (w3.setCell ⟨g, i, none⟩ v').heap.size = w3.heap.size := by simp [World.setCell]
    rw [hs3]
    rcases hk with hk | hk
    · exact Nat.lt_of_lt_of_le (h.fb k hk) f1.size
    · exact O3.lt hk
  · rcases hk with rfl | hk | rfl
    · exact h.fx.2.2
    · exact h.fl i k hi hk
    · exact h.fx.2.1
  · rcases hv' k hk with h' | h'
    · exact .inl (h.fl i k hi h')
    · exact .inr (by omega)

section
variable (x n : Nat) (L : Nat → List Int) (O : Int → Option Int) (F : Nat → Prop) (i : Nat) (w : World) (H : Held w x n L O F) (hi : i < n)
include H
theorem rank_owner (r : Int) : Calls Try.prog 30 #[.pointer (some ⟨x, 0, none⟩), .int .i64 r] w fun e w' => e = .returned (.int .i64 ((O r).getD (-1))) ∧ w = w' := by
  obtain ⟨g, b, v, h⟩ := H
  have h1 := h.h.cell 1
  have hl := h.look r
  cases ho : O r with
  | none =>
    rw [ho] at hl
    clear h ho
    go_enter Try.func30, Try.ntmps30
    go_wp2
    go_ret
    exact ⟨rfl, rfl⟩
  | some y =>
    rw [ho] at hl
    clear h ho
    go_enter Try.func30, Try.ntmps30
    go_wp2
    go_ret
    exact ⟨rfl, rfl⟩

include hi
theorem rank_holds (r : Int) : Calls Try.prog 33 #[.pointer (some ⟨x, 0, none⟩), .int .i64 i, .int .i64 r] w fun e w' => e = .returned (.bool (decide (r ∈ L i))) ∧ w = w' := by
  obtain ⟨g, b, v, h⟩ := H
  have HO := Lib.hid (rank_of x n L O F g b v i w h hi)
  have c0 := h.a.cell hi
  have HC := Lib.hid (sl_contains (v i) (L i) r w (h.l i hi).rd (by have := h.sz i hi; omega))
  clear h hi
  go_enter Try.func33, Try.ntmps33
  go_wp2_with (first | (go_at_call 64; (with_reducible refine HO.out.mono ?_); rintro e w' ⟨rfl, rfl⟩) | (go_at_call 68; (with_reducible refine HC.out.mono ?_); rintro e w' ⟨rfl, rfl⟩))
  go_ret
  exact ⟨rfl, rfl⟩

theorem rank_list : Calls Try.prog 29 #[.pointer (some ⟨x, 0, none⟩), .int .i64 i] w fun e w' => ∃ u, e = .returned u ∧ Own w' 3 1 (L i).length u (ints (L i)) ∧ Fr (fun _ => False) w w' ∧ ∀ k, Of u k → w.heap.size ≤ k := by
  obtain ⟨g, b, v, h⟩ := H
  have HO := Lib.hid (rank_of x n L O F g b v i w h hi)
  have c0 := h.a.cell hi
  have HC := Lib.hid (sl_clone (v i) (L i) w (h.l i hi).rd (by have := h.sz i hi; omega))
  clear h hi
  go_enter Try.func29, Try.ntmps29
  go_wp2_with (first | (go_at_call 64; (with_reducible refine HO.out.mono ?_); rintro e w' ⟨rfl, rfl⟩) | (go_at_call 67; (with_reducible refine HC.out.mono ?_); rintro e w' ⟨u, rfl, h'⟩; have H' := Lib.hid h'; clear h'))
  go_ret
  exact ⟨_, rfl, H'.out⟩
end

section
variable (x n : Nat) (L : Nat → List Int) (O : Int → Option Int) (F : Nat → Prop) (i : Nat) (w : World) (H : Held w x n L O F) (hi : i < n)
include H hi
/-- what lies above all that one holds -/
def Above (l : List Int) (r : Int) : Prop := 0 ≤ r ∧ ∀ y, l.getLast? = some y → y < r

set_option maxRecDepth 100000 in
theorem rank_take (r : Int) (ha : Above (L i) r) (ho : O r = none) (hz : (L i).length < 100000) :
    Calls Try.prog 24 #[.pointer (some ⟨x, 0, none⟩), .int .i64 i, .int .i64 r] w fun e w' => e = .returned (.tuple #[]) ∧ Fr F w w' ∧ ∃ F', Held w' x n (upd L i (L i ++ [r])) (fun k => if k = r then some (i : Int) else O k) F' ∧ ∀ k, F' k → F k ∨ w.heap.size ≤ k := by
  obtain ⟨i0, hif, hz0, hz1, hz2⟩ := info_parts info_int1
  obtain ⟨g, b, v, h⟩ := H
  have HO := Lib.hid (rank_of x n L O F g b v i w h hi)
  have c0 := h.a.cell hi
  have h1 := h.h.cell 1
  have hl : ∀ q, (Instr.lookup 46 (.map (some b)) (.int .i64 r) true).run Try.prog (w.drewN q) = .ok (.tuple #[.int .i64 0, .bool false]) (w.drewN q) := fun q => by
    have := (h.drewN q).look r
    rw [ho] at this
    exact this
  have own := h.l i hi
  obtain ⟨l, ml, ml1, ml2⟩ := h.m
  obtain ⟨cg, hcg, _⟩ := h.a
  have hbg : b ≠ g := ml.ne hcg
  obtain ⟨ar, cap, hv, hlc, hcm⟩ := own.form
  rw [hv] at c0
  have hr0 : 0 ≤ r := ha.1
  obtain ⟨N, hN⟩ : ∃ N, (L i).length = N := ⟨_, rfl⟩
  have hzi : (N : Int) ≤ 100000 := by omega
  have HM := Lib.hid (fun q => ml.fr (S := fun _ => False) (w' := w.drewN q) ⟨rfl, rfl, rfl, Nat.le_refl _, fun _ _ _ => rfl⟩ id)
  have hog : ¬ Of (.slice ar N cap) g := by rw [← hN, ← hv]; exact own.ne hcg (by decide)
  have HOG := Lib.hid hog
  have KEEP := Lib.hid (fun q W (f : Fr (fun k => k = b) (w.drewN q) W) => (show Arr W g n v 24 ∧ Own W 3 1 N (.slice ar N cap) (ints (L i)) from by
    subst hN
    have h' := (h.drewN q)
    refine ⟨h'.a.fr f (fun e => hbg e.symm), ?_⟩
    have := (h'.l i hi).fr f (fun k hk e => (h.l i hi).ne_map ml (e ▸ hk))
    rw [hv] at this
    exact this))
  have CELL := Lib.hid (fun W (A : Arr W g n v 24) => (show W.cell? ⟨g, i, none⟩ = some (.slice ar N cap) ∧ (∀ k, W.frozen? ⟨g, k, none⟩ = false) ∧ g < W.heap.size from ⟨by rw [A.cell hi, hv, hN], A.frozen, A.lt⟩))
  have fin : Hid (∀ q w2 w3 v', MapB kint w2 b (insA l r (.int .i64 i)) → Fr (fun k => k = b) (w.drewN q) w2 → Own w3 3 1 (N + 1) v' (ints (L i) ++ [.int .i64 r]) → Fr (Of (.slice ar N cap)) (w2.alloc (.cells #[.int .i64 r] 3)) w3 → (∀ k, Of v' k → Of (.slice ar N cap) k ∨ w2.heap.size ≤ k) →
      Fr F w (w3.setCell ⟨g, i, none⟩ v') ∧ ∃ F', Held (w3.setCell ⟨g, i, none⟩ v') x n (upd L i (L i ++ [r])) (fun k => if k = r then some (i : Int) else O k) F' ∧ ∀ k, F' k → F k ∨ w.heap.size ≤ k) := by
    intro q w2 w3 v' M2 F2 O3 F3 hv3
    subst hN
    rw [← hv] at F3 hv3
    obtain ⟨a, b', c⟩ := h.drewN q |>.taken hi hz r ml1 ml2 rfl M2 F2 O3 F3 hv3
    exact ⟨⟨b'.os, b'.tape, b'.output, b'.size, b'.block⟩, _, ⟨_, _, _, a⟩, fun k hk => hk.elim .inl (c k)⟩
  rw [hN] at c0
  have hcase : (N = 0) ∨ (∃ y M, y < r ∧ N = M + 1 ∧ ∃ bb, ar = some ⟨bb, 0, none⟩ ∧ w.cell? ⟨bb, M, none⟩ = some (.int .i64 y)) := by
    rcases Nat.eq_zero_or_pos N with h0 | h0
    · exact .inl h0
    · right
      have hlast := List.getLast?_eq_getElem? (l := L i)
      have hlt : N - 1 < (L i).length := by omega
      rw [hN, List.getElem?_eq_getElem hlt] at hlast
      rcases own.cases with ⟨_, h1, _⟩ | ⟨bb, cc, e, _, _, _, hcell, _⟩
      · omega
      · rw [hv] at e
        simp only [Value.slice.injEq] at e
        refine ⟨(L i)[N - 1], N - 1, ha.2 _ hlast, by omega, bb, e.1, ?_⟩
        rw [hcell (N - 1) (by omega), ints_get, List.getElem?_eq_getElem hlt]
        rfl
  clear h own ml ml1 ml2 hcg hbg hv hlc hcm ho hog hz hN ha
  rcases hcase with rfl | ⟨y, M, hy, rfl, bb, rfl, cy⟩
  · go_enter Try.func24, Try.ntmps24
    go_wp2_with (go_at_call 64; (with_reducible refine HO.out.mono ?_); rintro e w' ⟨rfl, rfl⟩)
    go_quiet (fail)
    go_wp2_with (first
      | (go_at_call 54; refine (must_ok _ _ _).mono ?_; rintro e w' ⟨rfl, rfl⟩)
      | (at_mapUpdate; refine wpList_update_b rfl _ _ _ 46 rfl (key_int Try.underlying3) Try.underlying46 rfl (HM.out _) r (.int .i64 i) rfl rfl ?_; intro w2 M2 F2; obtain ⟨k0, k3⟩ := KEEP.out _ _ F2; have A2 := Lib.hid k0; obtain ⟨d0, d1, d2⟩ := CELL.out _ k0; have O1 := k3.fr ((Fr.refl (fun _ => False) w2).alloc (.cells #[.int .i64 r] 3)) (fun _ _ => id); have HM2 := Lib.hid M2; have HF2 := Lib.hid F2; clear M2 F2 k3 k0)
      | (at_builtin; refine wpList_append1 rfl _ _ 24 rfl 3 i0 (.int .i64 0) 8 Try.underlying24 hif hz0 hz1 hz2 rfl (by decide) _ _ _ rfl _ _ O1 w2.heap.size rfl rfl rfl (by omega) ?_; intro v' w4 O2 F3 hv'; obtain ⟨gv, cv, hve, _⟩ : ∃ gv cv, v' = .slice (some ⟨gv, 0, none⟩) (_) cv ∧ True := (O2.cases.elim (fun h => absurd h.2.1 (by omega)) (fun ⟨g, c, h, _⟩ => ⟨g, c, h, trivial⟩)); subst hve; obtain ⟨e0, e1, e2⟩ := CELL.out _ ((A2.out.alloc (.cells #[.int .i64 r] 3)).fr F3 HOG.out); have HO2 := Lib.hid O2; have HF4 := Lib.hid F3; have HV4 := Lib.hid hv'; clear O2 F3 hv'))
    go_end0
    exact ⟨rfl, fin.out _ _ _ _ HM2.out HF2.out HO2.out HF4.out HV4.out⟩
  · have m0 : (0 : Int) ≤ M := by omega
    have m1 : (M : Int) ≤ 99999 := by omega
    have m2 : (M : Int) < (M : Int) + 1 := by omega
    have m3 : IntKind.i64.wrap (M : Int) = M := IntWalk.i64_in _ (by omega)
    go_enter Try.func24, Try.ntmps24
    go_wp2_with (go_at_call 64; (with_reducible refine HO.out.mono ?_); rintro e w' ⟨rfl, rfl⟩)
    go_quiet (fail)
    go_wp2_with (first
      | (go_at_call 54; refine (must_ok _ _ _).mono ?_; rintro e w' ⟨rfl, rfl⟩)
      | (at_mapUpdate; refine wpList_update_b rfl _ _ _ 46 rfl (key_int Try.underlying3) Try.underlying46 rfl (HM.out _) r (.int .i64 i) rfl rfl ?_; intro w2 M2 F2; obtain ⟨k0, k3⟩ := KEEP.out _ _ F2; have A2 := Lib.hid k0; obtain ⟨d0, d1, d2⟩ := CELL.out _ k0; have O1 := k3.fr ((Fr.refl (fun _ => False) w2).alloc (.cells #[.int .i64 r] 3)) (fun _ _ => id); have HM2 := Lib.hid M2; have HF2 := Lib.hid F2; clear M2 F2 k3 k0)
      | (at_builtin; refine wpList_append1 rfl _ _ 24 rfl 3 i0 (.int .i64 0) 8 Try.underlying24 hif hz0 hz1 hz2 rfl (by decide) _ _ _ rfl _ _ O1 w2.heap.size rfl rfl rfl (by omega) ?_; intro v' w4 O2 F3 hv'; obtain ⟨gv, cv, hve, _⟩ : ∃ gv cv, v' = .slice (some ⟨gv, 0, none⟩) (_) cv ∧ True := (O2.cases.elim (fun h => absurd h.2.1 (by omega)) (fun ⟨g, c, h, _⟩ => ⟨g, c, h, trivial⟩)); subst hve; obtain ⟨e0, e1, e2⟩ := CELL.out _ ((A2.out.alloc (.cells #[.int .i64 r] 3)).fr F3 HOG.out); have HO2 := Lib.hid O2; have HF4 := Lib.hid F3; have HV4 := Lib.hid hv'; clear O2 F3 hv'))
    go_end0
    exact ⟨rfl, fin.out _ _ _ _ HM2.out HF2.out HO2.out HF4.out HV4.out⟩
end
end Go.Proofs.Ytoifefcbegdjdaa
