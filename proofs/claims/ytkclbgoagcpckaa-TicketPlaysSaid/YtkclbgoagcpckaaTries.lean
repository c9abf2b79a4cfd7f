import Derived.Test.YtkclbgoagcpckaaTick
import Derived.Deep.QuietTactic
import Derived.BigQuiet
namespace Go.Proofs.Ytkclbgoagcpckaa
open Go.RowKit

theorem info_try : (Try.prog.info? 24).map (fun i => (i.zero, i.size, i.bytes)) = some (some (.pointer none), 1, 8) := by kernel_rfl

/-- a list of tries: the blocks tb, each of the lock b, where it is, its ticket -/
structure Tries (w : World) (v : Value) (n : Nat) (tb : Nat → Nat) (b at_ tk : Nat → Int) : Prop where
  own : ∃ xs, Own w 24 1 n v xs ∧ ∀ j, j < n → xs[j]? = some (.pointer (some ⟨tb j, 0, none⟩))
  t : ∀ j, j < n → TryB w (tb j) (b j) (at_ j) (tk j)
  inj : ∀ i j, i < n → j < n → tb i = tb j → i = j

theorem upd_same {α : Type} {f : Nat → α} {n : Nat} {x : α} (h : f n = x) : upd f n x = f := by
  funext j; unfold upd; split
  · rename_i e; rw [e, h]
  · rfl

theorem Tries.nil (w : World) (tb : Nat → Nat) (b at_ tk : Nat → Int) : Tries w (.slice none 0 0) 0 tb b at_ tk :=
  ⟨⟨[], Own.nil _ _ _, fun j h => absurd h (Nat.not_lt_zero j)⟩, fun j h => absurd h (Nat.not_lt_zero j), fun i _ h => absurd h (Nat.not_lt_zero i)⟩

section
variable {w : World} {v : Value} {n : Nat} {tb : Nat → Nat} {b at_ tk : Nat → Int} (h : Tries w v n tb b at_ tk)
include h

theorem Tries.apart {j : Nat} (hj : j < n) : ¬ Of v (tb j) := h.own.elim fun _ k => k.1.ne (h.t j hj) (by decide)

theorem Tries.form : ∃ a cap, v = .slice a n cap ∧ n ≤ cap := h.own.elim fun _ k => let ⟨a, cap, e, h1, _⟩ := k.1.form; ⟨a, cap, e, h1⟩

theorem Tries.at {j : Nat} (hj : j < n) : ∃ g cap, v = .slice (some ⟨g, 0, none⟩) n cap ∧ g < w.heap.size ∧ n ≤ cap ∧ ∀ i, i < n → w.cell? ⟨g, i, none⟩ = some (.pointer (some ⟨tb i, 0, none⟩)) := by
  obtain ⟨xs, ho, hx⟩ := h.own
  rcases ho.cases with ⟨_, hn, _⟩ | ⟨g, cap, hv, hg, hc, _, hcell, _⟩
  · omega
  · exact ⟨g, cap, hv, hg, hc, fun i hi => (hcell i (by omega)).trans (hx i hi)⟩

theorem Tries.fr {S : Nat → Prop} {w' : World} (f : Fr S w w') (h1 : ∀ k, Of v k → ¬ S k) (h2 : ∀ j, j < n → ¬ S (tb j)) : Tries w' v n tb b at_ tk := by
  obtain ⟨xs, ho, hx⟩ := h.own
  exact ⟨⟨xs, ho.fr f h1, hx⟩, fun j hj => (h.t j hj).fr f (h2 j hj), h.inj⟩

/-- one of them turns -/
theorem Tries.turn {S : Nat → Prop} {w' : World} (f : Fr S w w') {j : Nat} (hj : j < n) (h1 : ∀ k, Of v k → ¬ S k) (h2 : ∀ i, i < n → i ≠ j → ¬ S (tb i)) {x y : Int} (ht : TryB w' (tb j) (b j) x y) : Tries w' v n tb b (upd at_ j x) (upd tk j y) := by
  obtain ⟨xs, ho, hx⟩ := h.own
  refine ⟨⟨xs, ho.fr f h1, hx⟩, fun i hi => ?_, h.inj⟩
  by_cases e : i = j
  · subst e; rw [upd_self, upd_self]; exact ht
  · rw [upd_ne _ _ e, upd_ne _ _ e]; exact (h.t i hi).fr f (h2 i hi e)

/-- one more -/
theorem Tries.push {w' : World} {v' : Value} {t : Nat} {c x y : Int} (ht : TryB w t c x y) (hn : ∀ j, j < n → tb j ≠ t) (hv : ¬ Of v t)
    {xs : List Value} (k : Own w 24 1 n v xs) (hx : ∀ j, j < n → xs[j]? = some (.pointer (some ⟨tb j, 0, none⟩))) (ho : Own w' 24 1 (n + 1) v' (xs ++ [.pointer (some ⟨t, 0, none⟩)])) (f : Fr (Of v) w w') :
    Tries w' v' (n + 1) (upd tb n t) (upd b n c) (upd at_ n x) (upd tk n y) := by
  have hl : xs.length = n := by have := k.length; omega
  refine ⟨⟨_, ho, fun j hj => ?_⟩, fun j hj => ?_, fun i j hi hj e => ?_⟩
  · by_cases e : j = n
    · subst e; rw [upd_self, List.getElem?_append_right (by omega), hl]; simp
    · rw [upd_ne _ _ e, List.getElem?_append_left (by omega)]; exact hx j (by omega)
  · by_cases e : j = n
    · subst e; simp only [upd_self]; exact ht.fr f hv
    · simp only [upd_ne _ _ e]; exact (h.t j (by omega)).fr f (h.apart (by omega))
  · by_cases e1 : i = n
    · by_cases e2 : j = n
      · omega
      · subst e1; rw [upd_self, upd_ne _ _ e2] at e; exact absurd e.symm (hn j (by omega))
    · by_cases e2 : j = n
      · subst e2; rw [upd_self, upd_ne _ _ e1] at e; exact absurd e (hn i (by omega))
      · rw [upd_ne _ _ e1, upd_ne _ _ e2] at e; exact h.inj i j (by omega) (by omega) e
end

theorem Fr.drewN {S : Nat → Prop} {a w : World} (h : Fr S a w) (n : Nat) : Fr S a (w.drewN n) := ⟨h.os, h.tape, h.output, h.size, h.block⟩

theorem quiet_left {P : Program} {f : FuncId} {args : Array Value} {w : World} {n : Nat} {v : Value}
    (h : Calls P f args (w.drewN n) fun e w' => e = .returned v ∧ w.drewN n = w') : Calls P f args (w.drewN n) fun e w'' => e = .returned v ∧ ∃ m, w'' = w.drewN m :=
  h.mono fun _ _ ⟨he, hm⟩ => ⟨he, n, hm.symm⟩

/-- the memory m, the tries of it, and nothing else has turned since w0 -/
structure TrySt (w0 : World) (m g N k : Nat) (v : Value) (tb : Nat → Nat) (b : Nat → Int) (V : Nat → Int) (c : Int) (at_ tk : Nat → Int) (w : World) : Prop where
  M : Mem w m g N V c
  T : Tries w v k tb b at_ tk
  F : Fr (fun _ => False) w0 w

section
variable {w0 : World} {m g N k : Nat} {v : Value} {tb : Nat → Nat} {b : Nat → Int} {V : Nat → Int} {c : Int} {at_ tk : Nat → Int} {w : World}
theorem TrySt.drewN (h : TrySt w0 m g N k v tb b V c at_ tk w) (n : Nat) : TrySt w0 m g N k v tb b V c at_ tk (w.drewN n) :=
  ⟨h.M.fr ((Fr.refl (fun _ => False) w).drewN n) id id, h.T.fr ((Fr.refl (fun _ => False) w).drewN n) (fun _ _ => id) (fun _ _ => id), h.F.drewN n⟩
theorem TrySt.drew (h : TrySt w0 m g N k v tb b V c at_ tk w) : TrySt w0 m g N k v tb b V c at_ tk w.drew :=
  ⟨h.M.drew, h.T.fr (Fr.refl (fun _ => False) w).drew (fun _ _ => id) (fun _ _ => id), h.F.drew⟩
end

/-- they lie apart -/
structure Apart (w0 : World) (m g k : Nat) (v : Value) (tb : Nat → Nat) : Prop where
  t : ∀ j, j < k → tb j ≠ m ∧ tb j ≠ g ∧ w0.heap.size ≤ tb j
  v : ∀ x, Of v x → w0.heap.size ≤ x ∧ x ≠ m ∧ x ≠ g
  m : w0.heap.size ≤ m ∧ w0.heap.size ≤ g

section
variable {w0 : World} {m g N k : Nat} {v : Value} {tb : Nat → Nat} {b : Nat → Int} {V : Nat → Int} {c : Int} {at_ tk : Nat → Int} {w : World} (A : Apart w0 m g k v tb) (h : TrySt w0 m g N k v tb b V c at_ tk w)
include A h

theorem TrySt.turned {w' : World} {j : Nat} (hj : j < k) (f : Fr (fun x => x = tb j ∨ x = m ∨ x = g) w w') {V' : Nat → Int} {c' x y : Int} (M : Mem w' m g N V' c') (t : TryB w' (tb j) (b j) x y) :
    TrySt w0 m g N k v tb b V' c' (upd at_ j x) (upd tk j y) w' := by
  refine ⟨M, h.T.turn f hj (fun q hq hs => ?_) (fun i hi hne hs => ?_) t, h.F.step f (fun q hq hs => ?_)⟩
  · have a1 := A.v q hq
    have a2 := h.T.apart hj
    rcases hs with rfl | hs
    · exact a2 hq
    · omega
  · have := A.t i hi
    rcases hs with hs | hs
    · exact hne (h.T.inj i j hi hj hs)
    · omega
  · have := A.t j hj
    have := A.m
    omega

theorem TrySt.step_fresh {j : Nat} (hj : j < k) (ht : at_ j = 0) {a : Nat} (hb : b j = a) (ha : a < N) (hc : 0 ≤ c ∧ c ≤ 1000000) :
    Calls Try.prog 14 #[.pointer (some ⟨tb j, 0, none⟩), .pointer (some ⟨m, 0, none⟩)] w fun e w' => e = .returned (.bool false) ∧ TrySt w0 m g N k v tb b (upd V a (wadd (V a) 1)) (c + 1) (upd at_ j 1) (upd tk j (V a)) w' := by
  have t := h.T.t j hj
  rw [ht, hb] at t
  refine (Go.Proofs.Ytkclbgoagcpckaa.step_fresh (tb j) m g N V c a (tk j) w h.M hc t ha).mono fun _ w' ⟨he, f, t', M'⟩ => ⟨he, h.turned A hj f M' (by rw [hb]; exact t')⟩

theorem TrySt.step_waits {j : Nat} (hj : j < k) (ht : at_ j = 1) {a : Nat} (hb : b j = a) (ha : a + 1 < N) (hN : N ≤ 4096) (hc : 0 ≤ c ∧ c ≤ 1000000) :
    Calls Try.prog 14 #[.pointer (some ⟨tb j, 0, none⟩), .pointer (some ⟨m, 0, none⟩)] w fun e w' => e = .returned (.bool (decide (V (a + 1) = tk j))) ∧ TrySt w0 m g N k v tb b V (c + 1) (upd at_ j (if V (a + 1) = tk j then 2 else 1)) tk w' := by
  have t := h.T.t j hj
  rw [ht, hb] at t
  refine (Go.Proofs.Ytkclbgoagcpckaa.step_waits (tb j) m g N V c a (tk j) w h.M hc t ha hN).mono fun _ w' ⟨he, f, t', M'⟩ => ⟨he, ?_⟩
  have r := h.turned A hj (f.mono fun _ _ h => by rcases h with h | h <;> simp [h]) M' (x := if V (a + 1) = tk j then 2 else 1) (y := tk j) (by rw [hb]; exact t')
  rw [upd_same (f := tk) rfl] at r
  exact r

theorem TrySt.leave {j : Nat} (hj : j < k) (ht : at_ j = 2) {a : Nat} (hb : b j = a) (ha : a + 1 < N) (hN : N ≤ 4096) (hc : 0 ≤ c ∧ c ≤ 1000000) :
    Calls Try.prog 15 #[.pointer (some ⟨tb j, 0, none⟩), .pointer (some ⟨m, 0, none⟩)] w fun e w' => e = .returned (.tuple #[]) ∧ TrySt w0 m g N k v tb b (upd V (a + 1) (wadd (V (a + 1)) 1)) (c + 1) (upd at_ j 3) tk w' := by
  have t := h.T.t j hj
  rw [ht, hb] at t
  refine (leave_ok (tb j) m g N V c a (tk j) w h.M hc t ha hN).mono fun _ w' ⟨he, f, t', M'⟩ => ⟨he, ?_⟩
  have r := h.turned A hj f M' (x := 3) (y := tk j) (by rw [hb]; exact t')
  rw [upd_same (f := tk) rfl] at r
  exact r
end

section
variable {w0 : World} {m g N k : Nat} {v : Value} {tb : Nat → Nat} {b : Nat → Int} {V : Nat → Int} {c : Int} {at_ tk : Nat → Int} {w : World} (A : Apart w0 m g k v tb) (h : TrySt w0 m g N k v tb b V c at_ tk w)
include A h
theorem TrySt.step_no {j : Nat} (hj : j < k) (ht : at_ j = 1) {a : Nat} (hb : b j = a) (ha : a + 1 < N) (hN : N ≤ 4096) (hc : 0 ≤ c ∧ c ≤ 1000000) (hv : V (a + 1) ≠ tk j) :
    Calls Try.prog 14 #[.pointer (some ⟨tb j, 0, none⟩), .pointer (some ⟨m, 0, none⟩)] w fun e w' => e = .returned (.bool false) ∧ TrySt w0 m g N k v tb b V (c + 1) at_ tk w' :=
  (h.step_waits A hj ht hb ha hN hc).mono fun _ _ ⟨he, h'⟩ => ⟨by rw [he, decide_eq_false hv], by rw [if_neg hv, upd_same (f := at_) ht] at h'; exact h'⟩
theorem TrySt.step_yes {j : Nat} (hj : j < k) (ht : at_ j = 1) {a : Nat} (hb : b j = a) (ha : a + 1 < N) (hN : N ≤ 4096) (hc : 0 ≤ c ∧ c ≤ 1000000) (hv : V (a + 1) = tk j) :
    Calls Try.prog 14 #[.pointer (some ⟨tb j, 0, none⟩), .pointer (some ⟨m, 0, none⟩)] w fun e w' => e = .returned (.bool true) ∧ TrySt w0 m g N k v tb b V (c + 1) (upd at_ j 2) tk w' :=
  (h.step_waits A hj ht hb ha hN hc).mono fun _ _ ⟨he, h'⟩ => ⟨by rw [he, decide_eq_true hv], by rw [if_pos hv] at h'; exact h'⟩
end

section
variable {w0 : World} {m g N k : Nat} {v : Value} {tb : Nat → Nat} {b : Nat → Int} {V : Nat → Int} {c : Int} {at_ tk : Nat → Int} {w : World} (h : TrySt w0 m g N k v tb b V c at_ tk w)
include h
theorem TrySt.cell {G cap j : Nat} (e : v = .slice (some ⟨G, 0, none⟩) k cap) (hj : j < k) : w.cell? ⟨G, j, none⟩ = some (.pointer (some ⟨tb j, 0, none⟩)) := by
  obtain ⟨_, _, e2, _, _, cells⟩ := h.T.at hj
  rw [e] at e2
  simp only [Value.slice.injEq, Option.some.injEq, Addr.mk.injEq] at e2
  obtain ⟨⟨rfl, _⟩, _, rfl⟩ := e2
  exact cells j hj
theorem TrySt.ticket_eq {j : Nat} (hj : j < k) {x : Int} (hx : tk j = x) :
    Calls Try.prog 17 #[.pointer (some ⟨tb j, 0, none⟩)] w fun e w' => e = .returned (.int .i64 x) ∧ w = w' := by
  subst hx
  exact (try_ticket _ _ _ _ _ (h.T.t j hj)).mono fun _ _ h => ⟨h.1, h.2.symm⟩
theorem TrySt.at {j : Nat} (hj : j < k) {x : Int} (hx : at_ j = x) :
    Calls Try.prog 16 #[.pointer (some ⟨tb j, 0, none⟩)] w fun e w' => e = .returned (.int .i64 x) ∧ w = w' := by
  subst hx
  exact (try_at _ _ _ _ _ (h.T.t j hj)).mono fun _ _ h => ⟨h.1, h.2.symm⟩
theorem TrySt.ticket {j : Nat} (hj : j < k) :
    Calls Try.prog 17 #[.pointer (some ⟨tb j, 0, none⟩)] w fun e w' => e = .returned (.int .i64 (tk j)) ∧ w = w' :=
  (try_ticket _ _ _ _ _ (h.T.t j hj)).mono fun _ _ h => ⟨h.1, h.2.symm⟩
theorem TrySt.step_holds {j : Nat} (hj : j < k) (ht : at_ j = 2) :
    Calls Try.prog 14 #[.pointer (some ⟨tb j, 0, none⟩), .pointer (some ⟨m, 0, none⟩)] w fun e w' => e = .returned (.bool true) ∧ w = w' := by
  have t := h.T.t j hj
  rw [ht] at t
  exact (Go.Proofs.Ytkclbgoagcpckaa.step_holds _ _ _ _ _ t).mono fun _ _ h => ⟨h.1, h.2.symm⟩
end
end Go.Proofs.Ytkclbgoagcpckaa
