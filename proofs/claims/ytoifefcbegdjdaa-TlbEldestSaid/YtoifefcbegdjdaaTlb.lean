import Derived.Test.YtoifefcbegdjdaaMaps2
import Derived.Test.YtoifefcbegdjdaaHarP
import Derived.Deep.QuietTactic
import Derived.BigQuiet
import Derived.RegionDies
import Derived.IntWalk
namespace Go.Proofs.Ytoifefcbegdjdaa
open Go.RowKit

/-- what harts remember: the lists E; the blocks F -/
structure TlbB (w : World) (x g n : Nat) (v : Nat → Value) (E : Nat → List Ent) (F : Nat → Prop) : Prop where
  h : Blk w x #[.slice (some ⟨g, 0, none⟩) n n] 92
  a : Arr w g n v 63
  l : ∀ i, i < n → Seg w (v i) (E i)
  ap : ∀ i j k, i < n → j < n → At (v i) k → At (v j) k → i = j
  fx : F x ∧ F g
  fl : ∀ i k, i < n → At (v i) k → F k
  sz : ∀ i, i < n → (E i).length ≤ 1000
  fb : ∀ k, F k → k < w.heap.size
def Tlb (w : World) (x n : Nat) (E : Nat → List Ent) (F : Nat → Prop) : Prop := ∃ g v, TlbB w x g n v E F

theorem TlbB.fr {w w' : World} {x g n : Nat} {v : Nat → Value} {E : Nat → List Ent} {F S : Nat → Prop} (h : TlbB w x g n v E F) (f : Fr S w w') (hs : ∀ k, F k → ¬ S k) : TlbB w' x g n v E F :=
  ⟨h.h.fr f (hs _ h.fx.1), h.a.fr f (hs _ h.fx.2), fun i hi => (h.l i hi).fr f (fun k hk => hs _ (h.fl i k hi hk)), h.ap, h.fx, h.fl, h.sz, fun k hk => Nat.lt_of_lt_of_le (h.fb k hk) f.size⟩
theorem Tlb.fr {w w' : World} {x n : Nat} {E : Nat → List Ent} {F S : Nat → Prop} (h : Tlb w x n E F) (f : Fr S w w') (hs : ∀ k, F k → ¬ S k) : Tlb w' x n E F := by
  obtain ⟨g, v, h⟩ := h
  exact ⟨g, v, h.fr f hs⟩
theorem Tlb.lt {w : World} {x n : Nat} {E : Nat → List Ent} {F : Nat → Prop} (h : Tlb w x n E F) {k : Nat} (hk : F k) : k < w.heap.size := by
  obtain ⟨g, v, h⟩ := h
  exact h.fb k hk
theorem Tlb.congr {w : World} {x n : Nat} {E E' : Nat → List Ent} {F : Nat → Prop} (h : Tlb w x n E F) (e : ∀ i, i < n → E i = E' i) : Tlb w x n E' F := by
  obtain ⟨g, v, h⟩ := h
  exact ⟨g, v, h.h, h.a, fun i hi => e i hi ▸ h.l i hi, h.ap, h.fx, h.fl, fun i hi => e i hi ▸ h.sz i hi, h.fb⟩

theorem Seg.ne {w : World} {v : Value} {l : List Ent} (h : Seg w v l) {b : Nat} {c : Array Value} {t : TypeId} (hb : Blk w b c t) (ht : t ≠ 56) : ¬ At v b := by
  rintro ⟨off, n, cap, rfl⟩
  rcases h with ⟨h, _⟩ | ⟨b', o, cap, g, h, _, _, h3, _⟩
  · simp at h
  · simp only [Value.slice.injEq, Option.some.injEq, Addr.mk.injEq] at h
    obtain ⟨⟨rfl, _⟩, _⟩ := h
    exact h3.ne hb (Ne.symm ht) rfl

/-- a hart's list turns -/
theorem TlbB.turn {w w1 : World} {x g n i : Nat} {v : Nat → Value} {E : Nat → List Ent} {F S : Nat → Prop} (h : TlbB w x g n v E F) (hi : i < n) {v' : Value} {l' : List Ent}
    (f : Fr S w w1) (hS : ∀ k, S k → At (v i) k) (s : Seg w1 v' l') (hv : ∀ k, At v' k → At (v i) k ∨ w.heap.size ≤ k) (hz : l'.length ≤ 1000) :
    TlbB (w1.setCell ⟨g, i, none⟩ v') x g n (upd v i v') (upd E i l') (fun k => F k ∨ At v' k) ∧ Fr F w (w1.setCell ⟨g, i, none⟩ v') ∧ ∀ k, At v' k → F k ∨ w.heap.size ≤ k := by
  obtain ⟨c, hc, hc2⟩ := h.a
  have hgx : g ≠ x := h.a.ne h.h (by decide)
  have hog : ∀ j, j < n → ¬ At (v j) g := fun j hj => (h.l j hj).ne hc (by decide)
  have hox : ∀ j, j < n → ¬ At (v j) x := fun j hj => (h.l j hj).ne h.h (by decide)
  have hlt : ∀ j k, j < n → At (v j) k → k < w.heap.size := fun j k hj hk => (h.l j hj).lt hk
  have hvg : ¬ At v' g := fun hk => (hv g hk).elim (hog i hi) (fun e => by have := hc.lt; omega)
  have fs : Fr (fun k => k = g) w1 (w1.setCell ⟨g, i, none⟩ v') := Fr.set1 _ _ _ _
  refine ⟨⟨(h.h.fr f (fun hh => hox i hi (hS _ hh))).fr fs (fun e => hgx e.symm), (h.a.fr f (fun hh => hog i hi (hS _ hh))).set i v', fun j hj => ?_, fun j j' k hj hj' h1 h2 => ?_, ⟨.inl h.fx.1, .inl h.fx.2⟩, fun j k hj hk => ?_, fun j hj => ?_, fun k hk => ?_⟩, ?_, fun k hk => (hv k hk).imp (h.fl i k hi) id⟩
  · by_cases e : j = i
    · subst e
      rw [upd_self, upd_self]
      exact s.fr fs (fun k hk e => hvg (e ▸ hk))
    · rw [upd_ne _ _ e, upd_ne _ _ e]
      exact ((h.l j hj).fr f (fun k hk hs => e (h.ap j i k hj hi hk (hS _ hs)))).fr fs (fun k hk e2 => hog j hj (e2 ▸ hk))
  · by_cases e : j = i
    · by_cases e' : j' = i
      · omega
      · subst e
        rw [upd_self] at h1
        rw [upd_ne _ _ e'] at h2
        rcases hv k h1 with h' | h'
        · exact h.ap j j' k hj hj' h' h2
        · have := hlt j' k hj' h2; omega
    · by_cases e' : j' = i
      · subst e'
        rw [upd_self] at h2
        rw [upd_ne _ _ e] at h1
        rcases hv k h2 with h' | h'
        · exact h.ap j j' k hj hj' h1 h'
        · have := hlt j k hj h1; omega
      · rw [upd_ne _ _ e] at h1
        rw [upd_ne _ _ e'] at h2
        exact h.ap j j' k hj hj' h1 h2
  · by_cases e : j = i
    · subst e; rw [upd_self] at hk; exact .inr hk
    · rw [upd_ne _ _ e] at hk; exact .inl (h.fl j k hj hk)
  · by_cases e : j = i
    · subst e; rw [upd_self]; exact hz
    · rw [upd_ne _ _ e]; exact h.sz j hj
  · have h1 : k < w1.heap.size := hk.elim (fun hk => Nat.lt_of_lt_of_le (h.fb k hk) f.size) (fun hk => s.lt hk)
    simpa using h1
  · exact (f.mono (fun k _ hk => h.fl i k hi (hS _ hk))).setCell (fun _ => h.fx.2) _

theorem info_maps : (Try.prog.info? 63).map (fun i => (i.zero, i.size, i.bytes)) = some (some (.slice none 0 0), 1, 24) := by kernel_rfl

theorem tlb_new (n : Nat) (hn : 1 ≤ n ∧ n ≤ 8) (w : World) :
    Calls Try.prog 36 #[.int .i64 n] w fun e w' => e = .returned (.pointer (some ⟨w.heap.size + 1, 0, none⟩)) ∧ Fr (fun _ => False) w w' ∧ Tlb w' (w.heap.size + 1) n (fun _ => []) (fun k => w.heap.size ≤ k ∧ k < w.heap.size + 2) := by
  have hmk := made1 Try.prog 69 63 (.slice none 0 0) 24 Try.underlying69 info_maps rfl n (by omega) (by omega)
  obtain ⟨hn1, hn2⟩ := hn
  have hn1' : (1 : Int) ≤ n := by omega
  have hn2' : (n : Int) ≤ 8 := by omega
  go_enter Try.func36, Try.ntmps36
  go_wp2_with (go_at_call 54; refine (must_ok _ _ _).mono ?_; rintro e w' ⟨rfl, rfl⟩)
  go_ret
  have na : ∀ k, ¬ At (.slice none 0 0) k := fun k ⟨_, _, _, h⟩ => by simp at h
  refine ⟨by simp, ((Fr.refl _ _).alloc _).alloc _, w.heap.size, fun _ => .slice none 0 0, Blk.at_new (by simp), (Arr.at_new _ _ rfl).alloc _, fun i hi => .inl ⟨rfl, rfl⟩, fun i j k _ _ h => absurd h (na k), by omega, fun i k _ h => absurd h (na k), fun i hi => by simp, fun k hk => by simp; omega⟩

section
variable (x n : Nat) (E : Nat → List Ent) (F : Nat → Prop) (w : World) (h : Tlb w x n E F)
include h
theorem tlb_has (i : Nat) (hi : i < n) : Calls Try.prog 69 #[.pointer (some ⟨x, 0, none⟩), .int .i64 i] w fun e w' => e = .returned (.bool true) ∧ w = w' := by
  obtain ⟨g, v, h⟩ := h
  have h0 := h.h.cell 0
  have hi' : (i : Int) < n := by omega
  have hi2 : decide ((i : Int) < n) = true := decide_eq_true hi'
  clear h
  go_enter Try.func69, Try.ntmps69
  go_wp2_with fail
  go_ret
  first | exact ⟨rfl, rfl⟩ | exact ⟨by simp_all, rfl⟩
theorem tlb_has_no (i : Int) (hi : i < 0 ∨ (n : Int) ≤ i) : Calls Try.prog 69 #[.pointer (some ⟨x, 0, none⟩), .int .i64 i] w fun e w' => e = .returned (.bool false) ∧ w = w' := by
  obtain ⟨g, v, h⟩ := h
  have h0 := h.h.cell 0
  clear h
  rcases hi with hi | hi
  · go_enter Try.func69, Try.ntmps69
    go_wp2_with fail
    go_ret
    exact ⟨rfl, rfl⟩
  · have h1 : (0 : Int) ≤ i := by omega
    have h2 : decide (i < (n : Int)) = false := decide_eq_false (by omega)
    go_enter Try.func69, Try.ntmps69
    go_wp2_with fail
    go_ret
    first | exact ⟨rfl, rfl⟩ | exact ⟨by simp_all, rfl⟩
end

theorem tlb_find1 (bp ba : Nat) (p at_ : Int) (x : Ent) (W : World) (cp : W.cell? ⟨bp, 0, none⟩ = some (.int .i64 p)) (ca : W.cell? ⟨ba, 0, none⟩ = some (.int .i64 at_)) (hp : bp < W.heap.size) (ha : ba < W.heap.size) :
    Calls Try.prog 75 #[x.v, .pointer (some ⟨bp, 0, none⟩), .pointer (some ⟨ba, 0, none⟩)] W fun e w' => e = .returned (.bool (decide (x.p = p ∧ x.at_ = at_))) ∧ Fr (fun _ => False) W w' := by
  unfold Ent.v
  by_cases e1 : x.p = p
  · have t1 : (x.p == p) = true := beq_iff_eq.2 e1
    by_cases e2 : x.at_ = at_
    · have t2 : (x.at_ == at_) = true := beq_iff_eq.2 e2
      rw [decide_eq_true ⟨e1, e2⟩]
      clear e1 e2
      go_enter Try.func75, Try.ntmps75
      go_wp2_with fail
      go_ret
      exact ⟨rfl, (Fr.refl _ _).alloc _⟩
    · have t2 : (x.at_ == at_) = false := beq_eq_false_iff_ne.2 e2
      rw [decide_eq_false (fun h => e2 h.2)]
      clear e1 e2
      go_enter Try.func75, Try.ntmps75
      go_wp2_with fail
      go_ret
      exact ⟨rfl, (Fr.refl _ _).alloc _⟩
  · have t1 : (x.p == p) = false := beq_eq_false_iff_ne.2 e1
    rw [decide_eq_false (fun h => e1 h.1)]
    clear e1
    go_enter Try.func75, Try.ntmps75
    go_wp2_with fail
    go_ret
    exact ⟨rfl, (Fr.refl _ _).alloc _⟩

theorem tlb_fill1 (bm : Nat) (m x : Ent) (W : World) (c0 : W.cell? ⟨bm, 0, none⟩ = some (.int .i64 m.p)) (c1 : W.cell? ⟨bm, 1, none⟩ = some (.int .i64 m.at_)) (hp : bm < W.heap.size) :
    Calls Try.prog 72 #[x.v, .pointer (some ⟨bm, 0, none⟩)] W fun e w' => e = .returned (.bool (decide (x.p = m.p ∧ x.at_ = m.at_))) ∧ Fr (fun _ => False) W w' := by
  unfold Ent.v
  by_cases e1 : x.p = m.p
  · have t1 : (x.p == m.p) = true := beq_iff_eq.2 e1
    by_cases e2 : x.at_ = m.at_
    · have t2 : (x.at_ == m.at_) = true := beq_iff_eq.2 e2
      rw [decide_eq_true ⟨e1, e2⟩]
      clear e1 e2
      go_enter Try.func72, Try.ntmps72
      go_wp2_with fail
      go_ret
      exact ⟨rfl, (Fr.refl _ _).alloc _⟩
    · have t2 : (x.at_ == m.at_) = false := beq_eq_false_iff_ne.2 e2
      rw [decide_eq_false (fun h => e2 h.2)]
      clear e1 e2
      go_enter Try.func72, Try.ntmps72
      go_wp2_with fail
      go_ret
      exact ⟨rfl, (Fr.refl _ _).alloc _⟩
  · have t1 : (x.p == m.p) = false := beq_eq_false_iff_ne.2 e1
    rw [decide_eq_false (fun h => e1 h.1)]
    clear e1
    go_enter Try.func72, Try.ntmps72
    go_wp2_with fail
    go_ret
    exact ⟨rfl, (Fr.refl _ _).alloc _⟩

theorem tlb_drop1 (bs : Nat) (v : Value) (l : List Int) (x : Ent) (W : World) (c0 : W.cell? ⟨bs, 0, none⟩ = some v) (R : Rd W v (ints l)) (hl : l.length ≤ 1000000) (hp : bs < W.heap.size) :
    Calls Try.prog 79 #[x.v, .pointer (some ⟨bs, 0, none⟩)] W fun e w' => e = .returned (.bool (decide (x.page ∈ l))) ∧ Fr (fun _ => False) W w' := by
  have R2 := R.fr ((Fr.refl (fun _ => False) W).alloc (.cells #[.int .i64 x.p, .int .i64 x.at_, .int .i64 x.page] 56)) (fun _ _ => id)
  have HC := Lib.hid (sl_contains v l x.page _ R2 hl)
  clear R R2
  unfold Ent.v
  go_enter Try.func79, Try.ntmps79
  go_wp2_with (go_at_call 68; refine HC.out.mono ?_; rintro e w' ⟨rfl, rfl⟩)
  go_ret
  exact ⟨rfl, (Fr.refl _ _).alloc _⟩
end Go.Proofs.Ytoifefcbegdjdaa
