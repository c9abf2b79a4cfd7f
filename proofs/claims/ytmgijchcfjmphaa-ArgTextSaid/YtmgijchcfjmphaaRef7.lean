import Derived.Test.YtmgijchcfjmphaaWr
import Derived.Test.YtmgijchcfjmphaaKeep
namespace Go.Proofs.Ytmgijchcfjmphaa
open Go.RowKit
attribute [local irreducible] wrCells

def sizes12 : Array Value := #[.int .i64 1, .int .i64 1, .int .i64 1, .int .i64 8, .int .i64 1, .int .i64 12, .int .i64 1, .int .i64 4, .int .i64 1, .int .i64 16, .int .i64 1, .int .i64 8]
theorem ref_sizes (w : World) : Calls Try.prog 47 #[] w fun e w' => e = .returned (.slice (some ⟨w.heap.size, 0, none⟩) 12 12) ∧ w' = w.alloc (.cells sizes12 3) := by
  go_enter Try.func47, Try.ntmps47
  go_wp2_with fail
  go_ret
  exact ⟨rfl, rfl⟩
theorem sizes_at (i : Nat) (h : i < 12) : sizes12[i]? = some (.int .i64 (many ((i : Int) + 1))) := by
  match i, h with
  | 0, _ => rfl
  | 1, _ => rfl
  | 2, _ => rfl
  | 3, _ => rfl
  | 4, _ => rfl
  | 5, _ => rfl
  | 6, _ => rfl
  | 7, _ => rfl
  | 8, _ => rfl
  | 9, _ => rfl
  | 10, _ => rfl
  | 11, _ => rfl
  | i + 12, h => omega

set_option maxRecDepth 100000 in
set_option maxHeartbeats 1000000 in
theorem ref_place (k : Key) (w : World) : Calls Try.prog 41 #[keyV k] w fun e w' => e = .returned (.int .i64 (placeZ k)) ∧ Fr (fun _ => False) w w' := by
  obtain ⟨a, b⟩ := k
  have f0 : Fr (fun _ => False) w ((w.alloc (.cells #[.int .i64 a, .int .i64 b] 61)).alloc (.cells sizes12 3)) := ((Fr.refl _ _).alloc _).alloc _
  have HF := Lib.hid f0
  have HC : Hid (∀ i, i < 12 → ((w.alloc (.cells #[.int .i64 a, .int .i64 b] 61)).alloc (.cells sizes12 3)).cell? ⟨w.heap.size + 1, i, none⟩ = some (.int .i64 (many ((i : Int) + 1)))) := fun i hi => by
    have hb := Blk.at_new (w := w.alloc (.cells #[.int .i64 a, .int .i64 b] 61)) (b := w.heap.size + 1) (c := sizes12) (t := 3) (by simp)
    rw [hb.cell]; exact sizes_at i hi
  clear f0
  go_enter Try.func41, Try.ntmps41
  go_wp2_with fail
  refine (ref_sizes _).mono ?_
  rintro e w1 ⟨rfl, rfl⟩
  go_wp2_with fail
  go_loop [3, 8] (fun t3 t8 => ∃ i : Nat, i ≤ 12 ∧ t8 = .int .i64 i ∧ t3 = .int .i64 (ahead0 i) ∧ (a < 1 ∨ (i : Int) < a)) (fun _ t8 => (12 - intOf t8).toNat)
  case atStart => exact ⟨0, by omega, rfl, rfl, by omega⟩
  case round =>
    obtain ⟨i, hi, rfl, rfl, hn⟩ := hrel
    obtain ⟨a1, a2⟩ := (ahead0_eq i hi).2
    have HA := Lib.hid (ahead0_eq i hi).1
    have hmb := many_bd ((i : Int) + 1)
    obtain ⟨m1, m2⟩ := hmb
    by_cases hlt : i < 12
    · have hlt' : (i : Int) < 12 := by omega
      have hcell := HC.out i hlt
      have HE := Lib.hid (show ahead0 (i + 1) = ahead0 i + many ((i : Int) + 1) from rfl)
      by_cases he : a = (i : Int) + 1
      · subst he
        by_cases hb : b < 0
        · have hz := Lib.hid (show placeZ ((i : Int) + 1, b) = -1 by unfold placeZ; rw [if_pos (.inl hb)])
          go_wp2_with fail
          go_ret
          exact ⟨by rw [hz.out]; rfl, HF.out⟩
        by_cases hb2 : many ((i : Int) + 1) ≤ b
        · have hz := Lib.hid (show placeZ ((i : Int) + 1, b) = -1 by unfold placeZ; rw [if_pos (.inr hb2)])
          have hd : decide (b < 0) = false := decide_eq_false hb
          go_wp2_with fail
          go_ret
          exact ⟨by rw [hz.out]; rfl, HF.out⟩
        · have hz := Lib.hid (show placeZ ((i : Int) + 1, b) = ahead0 i + b by unfold placeZ; rw [if_neg (by simp only; omega)]; simp only; rw [HA.out]; rfl)
          have hd : decide (b < 0) = false := decide_eq_false hb
          have hd2 : decide (many ((i : Int) + 1) ≤ b) = false := decide_eq_false hb2
          have hb3 : b ≤ 16 := by omega
          have hb4 : 0 ≤ b := by omega
          go_wp2_with fail
          go_ret
          exact ⟨by rw [hz.out]; rfl, HF.out⟩
      · have hne : (a == (i : Int) + 1) = false := beq_eq_false_iff_ne.2 he
        have HN := Lib.hid hn
        clear hn
        go_wp2_with fail
        refine ⟨⟨i + 1, by omega, by go_num, by rw [HE.out], (by have := HN.out; omega)⟩, by simp [intOf]; omega⟩
    · have hlt' : ¬ (i : Int) < 12 := by omega
      obtain rfl : i = 12 := by omega
      have hz := Lib.hid (show placeZ (a, b) = -1 by
        unfold placeZ
        rw [if_pos]
        simp only
        have : many a = 0 := by unfold many; rw [if_neg (by omega), if_neg (by omega), if_neg (by omega), if_neg (by omega), if_pos (by omega)]
        omega)
      go_wp2_with fail
      go_ret
      exact ⟨by rw [hz.out]; rfl, HF.out⟩

/-- block d is the document's store -/
def RefS (w : World) (d mb : Nat) (l : List (Int × Value)) : Prop := Blk w d #[.map (some mb)] 88 ∧ MapB (fun k : Int => Value.int .i64 k) w mb l
set_option maxRecDepth 100000 in
set_option maxHeartbeats 1000000 in
theorem ref_put (d mb : Nat) (l : List (Int × Value)) (k : Key) (x : Val) (w : World) (h : RefS w d mb l) :
    Calls Try.prog 32 #[.pointer (some ⟨d, 0, none⟩), keyV k, .agg x.cells] w fun e w' => e = .returned (.bool (place k).isSome) ∧ Fr (fun b => b = mb) w w' ∧ ∃ l', RefS w' d mb l' := by
  obtain ⟨a, b⟩ := k
  have HP := Lib.hid (fun w => ref_place (a, b) w)
  have FIN : Hid (∀ w1, Fr (fun _ => False) ((w.alloc (.cells #[.int .i64 a, .int .i64 b] 61)).alloc (.cells x.cells 59)) w1 → RefS w1 d mb l ∧ Blk w1 (w.heap.size + 1) x.cells 59 ∧ Blk w1 w.heap.size #[.int .i64 a, .int .i64 b] 61 ∧ Fr (fun _ => False) w w1) := fun w1 f => by
    have f0 : Fr (fun _ => False) w ((w.alloc (.cells #[.int .i64 a, .int .i64 b] 61)).alloc (.cells x.cells 59)) := ((Fr.refl _ _).alloc _).alloc _
    exact ⟨⟨h.1.fr (f0.trans f) id, h.2.fr (f0.trans f) id⟩, (Blk.at_new (by simp)).fr f id, ((Blk.at_new rfl).alloc _).fr f id, f0.trans f⟩
  have HN := Lib.hid (h.2.ne h.1)
  have HLT := Lib.hid (And.intro h.1.lt h.2.lt)
  cases hp : place (a, b) with
  | none =>
    have hz := placeZ_none hp
    rw [hz] at HP
    clear hp hz h
    go_enter Try.func32, Try.ntmps32
    go_wp2_with fail
    refine (HP.out _).mono ?_
    rintro e w1 ⟨rfl, f1⟩
    obtain ⟨h1, _, _, g1⟩ := FIN.out w1 f1
    have HB := Lib.hid h1
    have HF := Lib.hid g1
    clear f1 h1 g1
    go_wp2_with fail
    go_ret
    exact ⟨rfl, HF.out.to _, _, HB.out⟩
  | some p =>
    have hz := placeZ_some hp
    rw [hz] at HP
    have hp0 : (0 : Int) ≤ p := by omega
    clear hp hz h
    go_enter Try.func32, Try.ntmps32
    go_wp2_with fail
    refine (HP.out _).mono ?_
    rintro e w1 ⟨rfl, f1⟩
    obtain ⟨h1, b1, bk1, g1⟩ := FIN.out w1 f1
    have s0 := h1.1.cell 0
    have c0 := bk1.cell 0
    have c1 := bk1.cell 1
    have q0 := b1.rowAt (n := 17) rfl
    have HB := Lib.hid h1
    have HF := Lib.hid g1
    have HK := Lib.hid bk1
    have HX := Lib.hid b1
    clear f1 h1 b1 bk1 g1
    go_wp2_with fail
    go_region_with (first | (go_at_call 41; refine (HP.out _).mono ?_; rintro e w2 ⟨rfl, f2⟩; have f3 : Fr (fun _ => False) w1 w2 := (Fr.refl _ _).drew.trans f2; have s0' := HB.out.1.fr f3 id |>.cell 0; have c0' := (HK.out.fr f3 id).cell 0; have c1' := (HK.out.fr f3 id).cell 1; have q0' := (HX.out.fr f3 id).rowAt (n := 17) rfl; obtain ⟨w4, hr4, m4, f4⟩ := (HB.out.2.fr f3 id).update (key_int Try.underlying3) Try.underlying86 (p : Int) (.agg x.cells); have HF3 := Lib.hid f3; have HM4 := Lib.hid m4; have HF4 := Lib.hid f4; clear f2 f3 m4 f4))
    all_goals (
      go_wp2_with fail
      go_ret
      have f5 : Fr (fun b => b = mb) w w4 := (HF.out.trans HF3.out).trans' HF4.out
      exact ⟨rfl, f5, _, (HB.out.1.fr HF3.out id).fr HF4.out (fun e => HN.out e.symm), HM4.out⟩)
end Go.Proofs.Ytmgijchcfjmphaa
