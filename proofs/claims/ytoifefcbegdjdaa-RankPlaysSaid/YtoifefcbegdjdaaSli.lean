import Derived.Test.YtoifefcbegdjdaaRd
namespace Go.Proofs.Ytoifefcbegdjdaa
open Go.RowKit

section
variable (v : Value) (l : List Int) (x : Int) (w : World) (h : Rd w v (ints l)) (hl : l.length ≤ 1000000)
include h hl
set_option maxRecDepth 100000 in
theorem sl_index_yes (q : Nat) (hq : l[q]? = some x) (hm : ∀ j, j < q → l[j]? ≠ some x) : Calls Try.prog 65 #[v, .int .i64 x] w fun e w' => e = .returned (.int .i64 q) ∧ w = w' := by
  have hql : q < l.length := (List.getElem?_eq_some_iff.1 hq).1
  obtain ⟨b, off, cap, rfl, hb, h9⟩ := h.int hql
  clear h9
  have hlen : (l.length : Int) ≤ 1000000 := by omega
  have hc : ∀ j, (hj : j < l.length) → w.cell? ⟨b, off + j, none⟩ = some (.int .i64 l[j]) := fun j hj => by
    obtain ⟨b', off', cap', e, _, hc⟩ := h.int hj
    simp only [Value.slice.injEq, Option.some.injEq, Addr.mk.injEq] at e
    obtain ⟨⟨rfl, rfl, _⟩, _⟩ := e
    exact hc
  have HC := Lib.hid hc
  have HM := Lib.hid hm
  have HQ := Lib.hid hq
  clear h hc hm hq
  go_enter Try.func65, Try.ntmps65
  go_wp2_with fail
  go_loop [8] (fun t8 => ∃ i : Nat, i ≤ q ∧ t8 = .int .i64 i) (fun t8 => (l.length - intOf t8).toNat)
  case atStart => exact ⟨0, by omega, rfl⟩
  case round =>
    obtain ⟨i, hi, rfl⟩ := hrel
    have hil : (i : Int) < l.length := by omega
    have ci := HC.out i (by omega)
    by_cases hiq : i = q
    · subst hiq
      have hx : l[i] = x := by
        have := HQ.out
        rw [List.getElem?_eq_getElem (by omega)] at this
        simpa using this
      rw [hx] at ci
      clear hx
      go_wp2_with fail
      go_ret
      exact ⟨rfl, rfl⟩
    · have hne : (x == l[i]) = false := beq_eq_false_iff_ne.2 (fun e => HM.out i (by omega) (by rw [List.getElem?_eq_getElem (by omega), e]))
      go_wp2_with fail
      go_round
      case rel => exact ⟨i + 1, by omega, by go_num⟩
      case measure => simp [intOf]; omega

set_option maxRecDepth 100000 in
theorem sl_index_no (hm : x ∉ l) : Calls Try.prog 65 #[v, .int .i64 x] w fun e w' => e = .returned (.int .i64 (-1)) ∧ w = w' := by
  obtain ⟨a, cap, rfl, _, _⟩ := h.form
  rw [ints_len]
  have hlen : (l.length : Int) ≤ 1000000 := by omega
  have hc : ∀ j, (hj : j < l.length) → ∃ b off, a = some ⟨b, off, none⟩ ∧ w.cell? ⟨b, off + j, none⟩ = some (.int .i64 l[j]) := fun j hj => by
    obtain ⟨b', off', cap', e, _, hc⟩ := h.int hj
    simp only [Value.slice.injEq] at e
    exact ⟨b', off', e.1, hc⟩
  have HC := Lib.hid hc
  have HM := Lib.hid hm
  clear h hc hm
  go_enter Try.func65, Try.ntmps65
  go_wp2_with fail
  go_loop [8] (fun t8 => ∃ i : Nat, i ≤ l.length ∧ t8 = .int .i64 i) (fun t8 => (l.length - intOf t8).toNat)
  case atStart => exact ⟨0, by omega, rfl⟩
  case round =>
    obtain ⟨i, hi, rfl⟩ := hrel
    by_cases hil : i < l.length
    · have hil' : (i : Int) < l.length := by omega
      obtain ⟨b, off, rfl, ci⟩ := HC.out i hil
      have hne : (x == l[i]) = false := beq_eq_false_iff_ne.2 (fun e => HM.out (by rw [e]; exact List.getElem_mem _))
      go_wp2_with fail
      go_round
      case rel => exact ⟨i + 1, by omega, by go_num⟩
      case measure => simp [intOf]; omega
    · have hil' : ¬ (i : Int) < l.length := by omega
      go_wp2_with fail
      go_ret
      exact ⟨rfl, rfl⟩

theorem sl_contains : Calls Try.prog 68 #[v, .int .i64 x] w fun e w' => e = .returned (.bool (decide (x ∈ l))) ∧ w = w' := by
  by_cases hx : x ∈ l
  · obtain ⟨q, hq, hm⟩ : ∃ q, l[q]? = some x ∧ ∀ j, j < q → l[j]? ≠ some x := by
      refine ⟨l.idxOf x, ?_, fun j hj hc => ?_⟩
      · rw [List.getElem?_eq_getElem (List.idxOf_lt_length_of_mem hx)]; simp
      · have := List.not_of_lt_findIdx (p := (· == x)) (xs := l) hj
        have hjl := (List.getElem?_eq_some_iff.1 hc)
        obtain ⟨h1, h2⟩ := hjl
        simp [h2] at this
    have HI := Lib.hid (sl_index_yes v l x w h hl q hq hm)
    have HX := Lib.hid hx
    have hq0 : (0 : Int) ≤ q := by omega
    clear h hq hm hx
    go_enter Try.func68, Try.ntmps68
    go_wp2_with (go_at_call 65; refine HI.out.mono ?_; rintro e w' ⟨rfl, rfl⟩)
    go_ret
    exact ⟨by rw [decide_eq_true HX.out]; rfl, rfl⟩
  · have HI := Lib.hid (sl_index_no v l x w h hl hx)
    have HX := Lib.hid hx
    clear h hx
    go_enter Try.func68, Try.ntmps68
    go_wp2_with (go_at_call 65; refine HI.out.mono ?_; rintro e w' ⟨rfl, rfl⟩)
    go_ret
    exact ⟨by rw [decide_eq_false HX.out]; rfl, rfl⟩
end

end Go.Proofs.Ytoifefcbegdjdaa
