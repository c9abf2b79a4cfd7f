import Derived.Test.YtoifefcbegdjdaaRd
import Derived.Deep.QuietTactic
import Derived.BigQuiet
namespace Go.Proofs.Ytoifefcbegdjdaa
open Go.RowKit

theorem Rd.drewN {w : World} {v : Value} {xs : List Value} (h : Rd w v xs) (q : Nat) : Rd (w.drewN q) v xs := h.fr (S := fun _ => False) ⟨rfl, rfl, rfl, Nat.le_refl _, fun _ _ _ => rfl⟩ (fun _ _ => id)

def SameRel (w : World) (la lb : List Int) (t5 : Value) (wr : World) : Prop := ∃ i q : Nat, i ≤ la.length ∧ t5 = .int .i64 i ∧ wr = w.drewN q ∧ la.take i = lb.take i

set_option maxRecDepth 100000 in
theorem sl_same (a b : Value) (la lb : List Int) (w : World) (ha : Rd w a (ints la)) (hb : Rd w b (ints lb)) (hl : la.length ≤ 1000000) :
    Calls Try.prog 28 #[a, b] w fun e w' => e = .returned (.bool (decide (la = lb))) ∧ ∃ q, w' = w.drewN q := by
  obtain ⟨aa, ca, rfl, _, _⟩ := ha.form
  obtain ⟨ab, cb, rfl, _, _⟩ := hb.form
  rw [ints_len] at *
  rw [ints_len]
  by_cases hne : la.length = lb.length
  · have HA := Lib.hid ha
    have HB := Lib.hid hb
    have hlen : (la.length : Int) ≤ 1000000 := by omega
    have hn1 : (la.length != lb.length) = false := by simp [hne]
    have hn2 : ((la.length : Int) != (lb.length : Int)) = false := by simp [hne]
    have HNE := Lib.hid hne
    clear ha hb hl hne
    go_enter Try.func28, Try.ntmps28
    go_wp2_with fail
    go_loopw [5] (fun t5 wr => SameRel w la lb t5 wr) (fun t5 _ => (la.length - intOf t5).toNat)
    case atStart => exact ⟨0, 0, by omega, rfl, rfl, by simp⟩
    case round =>
      obtain ⟨i, q, hi, rfl, rfl, ht⟩ := hrel
      have HT := Lib.hid ht
      clear ht
      by_cases hil : i < la.length
      · have hil' : (i : Int) < la.length := by omega
        have hil2 : (i : Int) < lb.length := by have := HNE.out; omega
        have hilb : i < lb.length := by have := HNE.out; omega
        have hi0 : (0 : Int) ≤ i := by omega
        obtain ⟨b1, o1, c1, e1, _, k1⟩ := HA.out.int hil
        obtain ⟨b2, o2, c2, e2, _, k2⟩ := HB.out.int hilb
        simp only [Value.slice.injEq] at e1 e2
        obtain ⟨rfl, _⟩ := e1
        obtain ⟨rfl, _⟩ := e2
        by_cases hx : la[i] = lb[i]
        · have hx1 : (la[i] != lb[i]) = false := by simp [hx]
          have HX := Lib.hid hx
          clear hx
          go_wp2_with fail
          go_quiet (fail)
          go_wp2_with fail
          exact ⟨⟨i + 1, _, by omega, by go_num, rfl, by rw [List.take_succ_eq_append_getElem hil, List.take_succ_eq_append_getElem hilb, HT.out, HX.out]⟩, by simp [intOf]; omega⟩
        · have hx1 : (la[i] != lb[i]) = true := bne_iff_ne.2 hx
          have HX := Lib.hid (show la ≠ lb from fun e => hx (by simp only [e]))
          clear hx
          go_wp2_with fail
          go_quiet (fail)
          go_wp2_with fail
          go_ret
          exact ⟨by rw [decide_eq_false HX.out]; rfl, _, by rw [World.drewN_drewN]⟩
      · have hil' : ¬ (i : Int) < la.length := by omega
        have he : la = lb := by
          have h1 := HT.out
          have h2 := HNE.out
          rwa [List.take_of_length_le (by omega), List.take_of_length_le (by omega)] at h1
        have HE := Lib.hid he
        clear he
        go_wp2_with fail
        go_ret
        exact ⟨by rw [decide_eq_true HE.out]; rfl, _, rfl⟩
  · have hn1 : (la.length != lb.length) = true := bne_iff_ne.2 hne
    have hn2 : ((la.length : Int) != (lb.length : Int)) = true := bne_iff_ne.2 (by omega)
    have HE := Lib.hid (show la ≠ lb from fun e => hne (by rw [e]))
    clear ha hb hl hne
    go_enter Try.func28, Try.ntmps28
    go_wp2_with fail
    go_ret
    exact ⟨by rw [decide_eq_false HE.out]; rfl, 0, rfl⟩
end Go.Proofs.Ytoifefcbegdjdaa
