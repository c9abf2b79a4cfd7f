import Derived.Test.YtkclbgoagcpckaaTickB
import Derived.Test.YtkclbgoagcpckaaRd
namespace Go.Proofs.Ytkclbgoagcpckaa
open Go.RowKit

/-! TicketTurn: the plain law, and the tries beside the order in which they are picked -/
/-- where the q-th is that was looked at n times -/
def stQ (q n : Nat) : Int := if n ≤ q then 1 else if n = q + 1 then 2 else 3
def vis (r p q : Nat) : Nat := if q < p then r + 1 else r
/-- how many have left when the p-th is looked at in the round r -/
def trn (k r p : Nat) : Nat := min k (if r ≤ p then r else r - 1)

structure Tt (k r p : Nat) (P : Nat → Nat) (V at_ tk : Nat → Int) : Prop where
  v : V 1 = (trn k r p : Nat)
  st : ∀ q, q < k → at_ (P q) = stQ q (vis r p q)
  tk : ∀ q, q < k → tk (P q) = q

theorem vis_ne {r p q : Nat} (h : q ≠ p) : vis r (p + 1) q = vis r p q := by
  unfold vis
  by_cases e : q < p
  · rw [if_pos e, if_pos (by omega)]
  · rw [if_neg e, if_neg (by omega)]

theorem Tt.any {k r p : Nat} {P : Nat → Nat} {V at_ tk : Nat → Int} (h : Tt k r p P V at_ tk) (hp : p < k) (hk : k ≤ 8) (inj : ∀ i j, i < k → j < k → P i = P j → i = j) :
    (at_ (P p) = 1 ∧ V 1 ≠ tk (P p) ∧ Tt k r (p + 1) P V at_ tk ∧ trn k r (p + 1) = trn k r p) ∨
    (at_ (P p) = 1 ∧ V 1 = tk (P p) ∧ Tt k r (p + 1) P V (upd at_ (P p) 2) tk ∧ trn k r (p + 1) = trn k r p) ∨
    (at_ (P p) = 2 ∧ Tt k r (p + 1) P (upd V 1 (wadd (V 1) 1)) (upd at_ (P p) 3) tk ∧ trn k r (p + 1) = trn k r p + 1) ∨
    (at_ (P p) = 3 ∧ Tt k r (p + 1) P V at_ tk ∧ trn k r (p + 1) = trn k r p) := by
  have hs := h.st p hp
  have ht := h.tk p hp
  have hv := h.v
  have v0 : vis r p p = r := by unfold vis; rw [if_neg (by omega)]
  have v1 : vis r (p + 1) p = r + 1 := by unfold vis; rw [if_pos (by omega)]
  rw [v0] at hs
  have others : ∀ x, ∀ q, q < k → q ≠ p → upd at_ (P p) x (P q) = stQ q (vis r (p + 1) q) := fun x q hq hne => by
    rw [upd_ne _ _ (fun e => hne (inj q p hq hp e)), vis_ne hne]; exact h.st q hq
  have same : stQ p (r + 1) = stQ p r → ∀ q, q < k → at_ (P q) = stQ q (vis r (p + 1) q) := fun e q hq => by
    by_cases hne : q = p
    · subst hne; rw [v1, e]; exact hs
    · rw [vis_ne hne]; exact h.st q hq
  rcases (show r < p ∨ r = p ∨ r = p + 1 ∨ p + 1 < r by omega) with e | e | e | e
  · have t1 : trn k r (p + 1) = trn k r p := by unfold trn; rw [if_pos (by omega), if_pos (by omega)]
    refine .inl ⟨by rw [hs]; unfold stQ; rw [if_pos (by omega)], ?_, ⟨by rw [t1]; exact hv, same (by unfold stQ; rw [if_pos (by omega), if_pos (by omega)]), h.tk⟩, t1⟩
    rw [hv, ht]
    unfold trn
    rw [if_pos (by omega)]
    omega
  · have t1 : trn k r (p + 1) = trn k r p := by unfold trn; rw [if_pos (by omega), if_pos (by omega)]
    refine .inr (.inl ⟨by rw [hs]; unfold stQ; rw [if_pos (by omega)], ?_, ⟨by rw [t1]; exact hv, fun q hq => ?_, h.tk⟩, t1⟩)
    · rw [hv, ht]
      unfold trn
      rw [if_pos (by omega)]
      omega
    · by_cases hne : q = p
      · subst hne; rw [upd_self, v1]; unfold stQ; rw [if_neg (by omega), if_pos (by omega)]
      · exact others 2 q hq hne
  · have t1 : trn k r (p + 1) = trn k r p + 1 := by unfold trn; rw [if_pos (by omega), if_neg (by omega)]; omega
    refine .inr (.inr (.inl ⟨by rw [hs]; unfold stQ; rw [if_neg (by omega), if_pos (by omega)], ⟨?_, fun q hq => ?_, h.tk⟩, t1⟩))
    · rw [upd_self, hv, t1]
      exact wadd_nat _ (by unfold trn; omega)
    · by_cases hne : q = p
      · subst hne; rw [upd_self, v1]; unfold stQ; rw [if_neg (by omega), if_neg (by omega)]
      · exact others 3 q hq hne
  · have t1 : trn k r (p + 1) = trn k r p := by unfold trn; rw [if_neg (by omega), if_neg (by omega)]
    exact .inr (.inr (.inr ⟨by rw [hs]; unfold stQ; rw [if_neg (by omega), if_neg (by omega)], ⟨by rw [t1]; exact hv, same (by unfold stQ; rw [if_neg (by omega), if_neg (by omega), if_neg (by omega), if_neg (by omega)]), h.tk⟩, t1⟩))

theorem Tt.pass {k r : Nat} {P : Nat → Nat} {V at_ tk : Nat → Int} (h : Tt k r k P V at_ tk) : Tt k (r + 1) 0 P V at_ tk ∧ trn k (r + 1) 0 = trn k r k := by
  have e : trn k (r + 1) 0 = trn k r k := by
    unfold trn
    rw [if_neg (by omega)]
    by_cases h1 : r ≤ k
    · rw [if_pos h1]; omega
    · rw [if_neg h1]; omega
  refine ⟨⟨by rw [e]; exact h.v, fun q hq => ?_, h.tk⟩, e⟩
  rw [h.st q hq]
  unfold vis
  rw [if_pos hq, if_neg (by omega)]

/-- when all have taken a ticket -/
theorem Tt.start {k : Nat} {P : Nat → Nat} {V at_ tk : Nat → Int} (v : V 1 = 0) (st : ∀ q, q < k → at_ (P q) = 1) (t : ∀ q, q < k → tk (P q) = q) : Tt k 0 0 P V at_ tk :=
  ⟨by rw [v]; unfold trn; simp, fun q hq => by rw [st q hq]; unfold vis stQ; simp, t⟩
theorem trn_end (k : Nat) : trn k (2 * k + 1) 0 = k := by
  unfold trn
  rw [if_neg (by omega)]
  omega

/-- the tries, and the order in which they are picked -/
structure TP (w0 : World) (m g k : Nat) (v : Value) (tb : Nat → Nat) (V : Nat → Int) (c : Int) (at_ tk : Nat → Int) (vp : Value) (pl : List Int) (w : World) : Prop where
  s : TrySt w0 m g 2 k v tb (fun _ => (0 : Nat)) V c at_ tk w
  p : Own w 3 1 pl.length vp (ints pl)
  d : ∀ x, Of vp x → w0.heap.size ≤ x ∧ x ≠ m ∧ x ≠ g ∧ ∀ j, j < k → x ≠ tb j

section
variable {w0 : World} {m g k : Nat} {v : Value} {tb : Nat → Nat} {V : Nat → Int} {c : Int} {at_ tk : Nat → Int} {vp : Value} {pl : List Int} {w : World} (A : Apart w0 m g k v tb) (h : TP w0 m g k v tb V c at_ tk vp pl w)
include A h
theorem TP.turned {w' : World} {j : Nat} (hj : j < k) (f : Fr (fun x => x = tb j ∨ x = m ∨ x = g) w w') {V' : Nat → Int} {c' x y : Int} (M : Mem w' m g 2 V' c') (t : TryB w' (tb j) 0 x y) :
    TP w0 m g k v tb V' c' (upd at_ j x) (upd tk j y) vp pl w' :=
  ⟨h.s.turned A hj f M t, h.p.fr f (fun q hq hs => by have := h.d q hq; have := this.2.2.2 j hj; omega), h.d⟩
theorem TP.step_fresh {j : Nat} (hj : j < k) (ht : at_ j = 0) (hc : 0 ≤ c ∧ c ≤ 1000000) :
    Calls Try.prog 14 #[.pointer (some ⟨tb j, 0, none⟩), .pointer (some ⟨m, 0, none⟩)] w fun e w' => e = .returned (.bool false) ∧ TP w0 m g k v tb (upd V 0 (wadd (V 0) 1)) (c + 1) (upd at_ j 1) (upd tk j (V 0)) vp pl w' := by
  have t := h.s.T.t j hj
  rw [ht] at t
  exact (Go.Proofs.Ytkclbgoagcpckaa.step_fresh (tb j) m g 2 V c 0 (tk j) w h.s.M hc t (by omega)).mono fun _ w' ⟨he, f, t', M'⟩ => ⟨he, h.turned A hj f M' t'⟩
theorem TP.step_no {j : Nat} (hj : j < k) (ht : at_ j = 1) (hc : 0 ≤ c ∧ c ≤ 1000000) (hv : V 1 ≠ tk j) :
    Calls Try.prog 14 #[.pointer (some ⟨tb j, 0, none⟩), .pointer (some ⟨m, 0, none⟩)] w fun e w' => e = .returned (.bool false) ∧ TP w0 m g k v tb V (c + 1) at_ tk vp pl w' := by
  have t := h.s.T.t j hj
  rw [ht] at t
  refine (Go.Proofs.Ytkclbgoagcpckaa.step_waits (tb j) m g 2 V c 0 (tk j) w h.s.M hc t (by omega) (by omega)).mono fun _ w' ⟨he, f, t', M'⟩ => ⟨by rw [he, decide_eq_false hv], ?_⟩
  rw [if_neg hv] at t'
  have r := h.turned A hj (f.mono fun _ _ h => by rcases h with h | h <;> simp [h]) M' t'
  rw [upd_same (f := tk) rfl, upd_same (f := at_) ht] at r
  exact r
theorem TP.step_yes {j : Nat} (hj : j < k) (ht : at_ j = 1) (hc : 0 ≤ c ∧ c ≤ 1000000) (hv : V 1 = tk j) :
    Calls Try.prog 14 #[.pointer (some ⟨tb j, 0, none⟩), .pointer (some ⟨m, 0, none⟩)] w fun e w' => e = .returned (.bool true) ∧ TP w0 m g k v tb V (c + 1) (upd at_ j 2) tk vp pl w' := by
  have t := h.s.T.t j hj
  rw [ht] at t
  refine (Go.Proofs.Ytkclbgoagcpckaa.step_waits (tb j) m g 2 V c 0 (tk j) w h.s.M hc t (by omega) (by omega)).mono fun _ w' ⟨he, f, t', M'⟩ => ⟨by rw [he, decide_eq_true hv], ?_⟩
  rw [if_pos hv] at t'
  have r := h.turned A hj (f.mono fun _ _ h => by rcases h with h | h <;> simp [h]) M' t'
  rw [upd_same (f := tk) rfl] at r
  exact r
theorem TP.leave {j : Nat} (hj : j < k) (ht : at_ j = 2) (hc : 0 ≤ c ∧ c ≤ 1000000) :
    Calls Try.prog 15 #[.pointer (some ⟨tb j, 0, none⟩), .pointer (some ⟨m, 0, none⟩)] w fun e w' => e = .returned (.tuple #[]) ∧ TP w0 m g k v tb (upd V 1 (wadd (V 1) 1)) (c + 1) (upd at_ j 3) tk vp pl w' := by
  have t := h.s.T.t j hj
  rw [ht] at t
  refine (leave_ok (tb j) m g 2 V c 0 (tk j) w h.s.M hc t (by omega) (by omega)).mono fun _ w' ⟨he, f, t', M'⟩ => ⟨he, ?_⟩
  have r := h.turned A hj f M' t'
  rw [upd_same (f := tk) rfl] at r
  exact r
end
section
variable {w0 : World} {m g k : Nat} {v : Value} {tb : Nat → Nat} {V : Nat → Int} {c : Int} {at_ tk : Nat → Int} {vp : Value} {pl : List Int} {w : World} (h : TP w0 m g k v tb V c at_ tk vp pl w)
include h
theorem TP.fr {w' : World} (f : Fr (fun _ => False) w w') : TP w0 m g k v tb V c at_ tk vp pl w' :=
  ⟨⟨h.s.M.fr f id id, h.s.T.fr f (fun _ _ => id) (fun _ _ => id), h.s.F.trans f⟩, h.p.fr f (fun _ _ => id), h.d⟩
theorem TP.num {g2 cap q : Nat} (e : vp = .slice (some ⟨g2, 0, none⟩) pl.length cap) (hq : q < pl.length) : w.cell? ⟨g2, q, none⟩ = some (.int .i64 pl[q]) := by
  obtain ⟨b, o, c, e2, _, hc⟩ := h.p.rd.int hq
  rw [e] at e2
  simp only [Value.slice.injEq, Option.some.injEq, Addr.mk.injEq] at e2
  obtain ⟨⟨rfl, rfl, _⟩, _, _⟩ := e2
  rw [Nat.zero_add] at hc
  exact hc
end

/-- one more among those that are picked -/
def insP (pl : List Int) (at_ : Nat) (i : Int) : List Int := pl.take at_ ++ [i] ++ pl.drop at_
theorem insP_len (pl : List Int) {at_ : Nat} (h : at_ ≤ pl.length) (i : Int) : (insP pl at_ i).length = pl.length + 1 := by
  unfold insP
  simp
  omega
theorem insP_nodup {pl : List Int} (h : pl.Nodup) (at_ : Nat) {i : Int} (hi : i ∉ pl) : (insP pl at_ i).Nodup := by
  have hp : (insP pl at_ i).Perm (i :: pl) := by
    unfold insP
    rw [List.append_assoc]
    refine (List.perm_middle (a := i) (l₁ := pl.take at_) (l₂ := pl.drop at_)).trans ?_
    rw [List.take_append_drop]
  rw [hp.nodup_iff, List.nodup_cons]
  exact ⟨hi, h⟩
theorem insP_mem {pl : List Int} {at_ : Nat} {i y : Int} (h : y ∈ insP pl at_ i) : y = i ∨ y ∈ pl := by
  unfold insP at h
  simp at h
  rcases h with h | h | h
  · exact .inr (List.mem_of_mem_take h)
  · exact .inl h
  · exact .inr (List.mem_of_mem_drop h)
end Go.Proofs.Ytkclbgoagcpckaa
