import Derived.Test.YtkclbgoagcpckaaHartB
import Derived.Test.YtkclbgoagcpckaaInts
namespace Go.Proofs.Ytkclbgoagcpckaa
open Go.RowKit

structure HMst (w0 : World) (x g n b a : Nat) (on : Bool) (M R : Nat) (w : World) : Prop where
  H : HartsB w x g n (hf a ⟨on, false, 0, R⟩)
  I : Arr w b 8 (fun j => .bool (hasb M j)) 54
  F : Fr (fun _ => False) w0 w
  d : b ≠ g ∧ b ≠ x ∧ w0.heap.size ≤ x ∧ w0.heap.size ≤ g ∧ w0.heap.size ≤ b

section
variable {w0 : World} {x g n b a : Nat} {on : Bool} {M R : Nat} {w : World} (h : HMst w0 x g n b a on M R w) (hn : a < n)
include h hn
theorem HMst.post {m : Nat} (hm : m < 8) (hb : R < 256) : Calls Try.prog 28 #[.pointer (some ⟨x, 0, none⟩), .int .i64 a, .int .i64 m] w fun e w' => e = .returned (.tuple #[]) ∧ HMst w0 x g n b a on M (putb R m) w' :=
  (hart_post x g n _ a w h.H hn m hm (by rw [hf_self]; exact hb)).mono fun _ w' ⟨he, f, h'⟩ => ⟨he, by rw [hf_self, hf_upd] at h'; exact h', h.I.fr f h.d.1, h.F.step f (fun k hk hs => by have := h.d; omega), h.d⟩
theorem HMst.take {m : Nat} (hz : R ≠ 0) (hb : R < 256) (hm : tzn R = m) : Calls Try.prog 29 #[.pointer (some ⟨x, 0, none⟩), .int .i64 a] w fun e w' => e = .returned (.tuple #[.int .i64 m, .bool true]) ∧ HMst w0 x g n b a on M (takeb R m) w' :=
  (hart_take_eq x g n _ a w h.H hn (v := m) (q := m) (by rw [hf_self]; exact hz) (by rw [hf_self]; exact hb) (by rw [hf_self]; exact hm) rfl).mono fun _ w' ⟨he, f, h'⟩ => ⟨he, by rw [hf_self, hf_upd] at h'; exact h', h.I.fr f h.d.1, h.F.step f (fun k hk hs => by have := h.d; omega), h.d⟩
end

theorem HMst.mark {w0 : World} {x g n b a : Nat} {on : Bool} {M R m : Nat} {w : World} (h : HMst w0 x g n b a on M R w) (hm : m < 8) (hb : M < 256) : HMst w0 x g n b a on (putb M m) R (w.setCell ⟨b, m, none⟩ (.bool true)) :=
  ⟨⟨h.H.h.other h.d.2.1 _, h.H.a.other h.d.1 _⟩, (h.I.set m (.bool true)).congr fun j hj => by
    rw [putb_has M m j hb hm hj]; unfold upd; split <;> simp_all, h.F.setCell (fun hk => by have := h.d; dsimp only at hk; omega) _, h.d⟩

def InRel (w0 : World) (x g n b a len : Nat) (on : Bool) (t13 : Value) (w : World) : Prop :=
  ∃ (i M : Nat), i ≤ 12 ∧ i ≤ len ∧ M < 256 ∧ t13 = .int .i64 i ∧ HMst w0 x g n b a on M M w

def OutRel (w0 : World) (x g n b a M : Nat) (on : Bool) (t62 : Value) (w : World) : Prop :=
  ∃ (m R : Nat), m ≤ 8 ∧ R < 256 ∧ (∀ j, j < 8 → hasb R j = (decide (m ≤ j) && hasb M j)) ∧ t62 = .int .i64 m ∧ HMst w0 x g n b a on M R w

theorem take_least {m M R : Nat} (hm : m < 8) (hR : R < 256) (h : ∀ j, j < 8 → hasb R j = (decide (m ≤ j) && hasb M j)) (hM : hasb M m = true) : R ≠ 0 ∧ tzn R = m := by
  have h1 : hasb R m = true := by rw [h m hm]; simp [hM]
  have h0 : R ≠ 0 := by rintro rfl; simp [hasb] at h1
  refine ⟨h0, ?_⟩
  have h2 := tzn_lt R h0 hR
  have h3 := tzn_is R h0 hR
  rw [h _ h2] at h3
  simp at h3
  rcases Nat.lt_or_ge m (tzn R) with h4 | h4
  · have := tzn_least R hR m h4; rw [h1] at this; simp at this
  · omega
theorem take_next {m M R : Nat} (hm : m < 8) (hR : R < 256) (h : ∀ j, j < 8 → hasb R j = (decide (m ≤ j) && hasb M j)) : ∀ j, j < 8 → hasb (takeb R m) j = (decide (m + 1 ≤ j) && hasb M j) := by
  intro j hj
  rw [takeb_has R m j hR hm hj, h j hj]
  by_cases e : j = m
  · subst e; simp; intro h; omega
  · by_cases e2 : m ≤ j
    · have : m + 1 ≤ j := by omega
      simp [e, e2, this]
    · have : ¬ m + 1 ≤ j := by omega
      simp [e2, this]
theorem take_skip {m M R : Nat} (h : ∀ j, j < 8 → hasb R j = (decide (m ≤ j) && hasb M j)) (hM : hasb M m = false) : ∀ j, j < 8 → hasb R j = (decide (m + 1 ≤ j) && hasb M j) := by
  intro j hj
  rw [h j hj]
  by_cases e : j = m
  · subst e; simp [hM]
  · by_cases e2 : m ≤ j
    · have : m + 1 ≤ j := by omega
      simp [e2, this]
    · have : ¬ m + 1 ≤ j := by omega
      simp [e2, this]
theorem putb_ne0 {M m : Nat} (hM : M < 256) (hm : m < 8) : putb M m ≠ 0 := by
  intro h0
  have := putb_has M m m hM hm hm
  rw [h0] at this
  simp [hasb] at this

set_option maxHeartbeats 2000000 in
set_option maxRecDepth 100000 in
theorem hartMail_walk (n h : Int) (ad : Option Addr) (len cap : Nat) (V : Nat → Nat → Value) (on : Bool) (w : World) (wf : (Lit.int .i64 n).wf = true) (wf2 : (Lit.int .i64 h).wf = true) (s : IsSl [.int .i64] w ad len cap V) :
    Calls Try.prog 10 #[.int .i64 n, .int .i64 h, .slice ad len cap, .bool on] w fun e w' => e = .returned (.bool true) ∧ Below w.heap.size w w' := by
  have hw := fun w => within_any n 2 8 w (wf_i64 wf) (by omega) (by omega) (by omega)
  have hk := wth_bd (n := n) (lo := 2) (hi := 8) (by omega)
  obtain ⟨k, hk'⟩ : ∃ k : Nat, wth n 2 8 = k := ⟨(wth n 2 8).toNat, by omega⟩
  rw [hk'] at hw hk
  have hk1 : 2 ≤ k := by omega
  have hk2 : k ≤ 8 := by omega
  have hw2 := fun w => within_any h 0 ((k : Int) - 1) w (wf_i64 wf2) (by omega) (by omega) (by omega)
  have ha := wth_bd (n := h) (lo := 0) (hi := (k : Int) - 1) (by omega)
  obtain ⟨a, ha'⟩ : ∃ a : Nat, wth h 0 ((k : Int) - 1) = a := ⟨(wth h 0 ((k : Int) - 1)).toNat, by omega⟩
  rw [ha'] at hw2 ha
  have hak : a < k := by omega
  have HW := Lib.hid hw
  have HW2 := Lib.hid hw2
  obtain ⟨A, hA⟩ := Nums.of s
  have HA := Lib.hid hA
  clear hw hk hk' hw2 ha ha' wf wf2 s hA
  go_enter Try.func10, Try.ntmps10
  go_wp2_with (first
    | (go_at_call 19; (with_reducible refine (HW.out _).mono ?_); rintro e w' ⟨rfl, rfl⟩)
    | (go_at_call 19; (with_reducible refine (HW2.out _).mono ?_); rintro e w' ⟨rfl, rfl⟩))
  refine (hart_new k (by omega) _).mono ?_
  rintro e w1 ⟨rfl, f1, h1⟩
  have h1' : HartsB w1 (w.heap.size + 1) w.heap.size k (hf a hnew) := h1.congr fun i _ => by unfold hf upd; split <;> rfl
  have HS := Lib.hid (hart_set _ _ _ _ a _ h1' hak on (by rw [hf_self]; rfl))
  have HF1 := Lib.hid f1
  clear f1 h1 h1' HW HW2
  go_wp2_with (go_at_call 30; refine HS.out.mono ?_; rintro e w2 ⟨rfl, f2, h2⟩; have HF2 := Lib.hid f2; have HH2 := Lib.hid h2; clear f2 h2)
  have hst : HMst w (w.heap.size + 1) w.heap.size k w2.heap.size a on 0 0 (w2.alloc (.cells #[.bool false, .bool false, .bool false, .bool false, .bool false, .bool false, .bool false, .bool false] 54)) := by
    refine ⟨?_, ⟨_, Blk.at_new rfl, rfl, fun i hi => ?_⟩, (HF1.out.step HF2.out (fun k hk hs => by omega)).alloc _, by have := HH2.out.h.lt; omega⟩
    · have := HH2.out
      rw [hf_self, hf_upd] at this
      exact this.alloc _
    · match i, hi with
      | 0, _ | 1, _ | 2, _ | 3, _ | 4, _ | 5, _ | 6, _ | 7, _ => rfl
  obtain ⟨x, hx⟩ : ∃ x, x = w.heap.size + 1 := ⟨_, rfl⟩
  obtain ⟨g, hg⟩ : ∃ g, g = w.heap.size := ⟨_, rfl⟩
  obtain ⟨b, hb⟩ : ∃ b, b = w2.heap.size := ⟨_, rfl⟩
  rw [← hx, ← hg, ← hb] at hst
  rw [← hx, ← hb]
  generalize (w2.alloc (.cells #[.bool false, .bool false, .bool false, .bool false, .bool false, .bool false, .bool false, .bool false] 54)) = w3 at *
  have H0 := Lib.hid hst
  clear hst hx hg hb HF1 HF2 HH2 HS
  go_loopw [13] (fun t13 wr => InRel w x g k b a len on t13 wr) (fun t13 _ => (12 - intOf t13).toNat)
  case atStart => exact ⟨0, 0, by omega, by omega, by omega, rfl, H0.out⟩
  case round =>
    obtain ⟨i, M, hi, hil, hM, rfl, hh⟩ := hrel
    have H := Lib.hid hh
    clear H0
    by_cases hr : i < len ∧ i < 12
    · obtain ⟨hr1, hr2⟩ := hr
      have hr1' : (i : Int) < len := by omega
      have hr2' : (i : Int) < 12 := by omega
      rcases HA.out.at hh.F with h | ⟨bl, off, rfl, hbw, hcl⟩
      · omega
      obtain ⟨c0, hbd⟩ := hcl i hr1
      have hwb := wth_bd (n := A i) (lo := 0) (hi := 7) (by omega)
      obtain ⟨m, hm⟩ : ∃ m : Nat, wth (A i) 0 7 = m := ⟨(wth (A i) 0 7).toNat, by omega⟩
      have hwi := fun w => within_any (A i) 0 7 w hbd (by omega) (by omega) (by omega)
      rw [hm] at hwb hwi
      have hm8 : m < 8 := by omega
      have hm8' : (m : Int) < 8 := by omega
      have HWI := Lib.hid hwi
      have HP := Lib.hid (hh.post hak hm8 hM)
      have HM := Lib.hid hM
      have HM2 := Lib.hid (putb_lt M m hM hm8)
      have HNZ := Lib.hid (putb_ne0 hM hm8)
      clear hh hcl hwb hm hwi hbd hM
      go_wp2_with (first
        | (go_at_call 19; (with_reducible refine (HWI.out _).mono ?_); rintro e w' ⟨rfl, rfl⟩)
        | (go_at_call 28; (with_reducible refine HP.out.mono ?_); rintro e w4 ⟨rfl, h4⟩; have H4 := Lib.hid h4; have c4 := h4.I.cell hm8; have f4 := h4.I.frozen; have l4 := h4.I.lt; clear h4)
        | (go_at_call 33; refine (hart_due_eq x g k _ a _ (H4.out.mark hm8 HM.out).H hak (v := on) (by rw [hf_self]; simp [HNZ.out])).mono ?_; rintro e w' ⟨rfl, rfl⟩))
      exact ⟨⟨i + 1, putb M m, by omega, by omega, HM2.out, by go_num, H4.out.mark hm8 HM.out⟩, by simp [intOf]; omega⟩
    · have HR := Lib.hid hartRuns_any
      have HM := Lib.hid hM
      clear hh hM
      rcases (show ¬ (i : Int) < len ∨ ((i : Int) < len ∧ ¬ (i : Int) < 12) by omega) with hx | ⟨hx, hy⟩
      all_goals
        go_wp2_with fail
        go_loopw [62] (fun t62 w7 => OutRel w x g k b a M on t62 w7) (fun t62 _ => (8 - intOf t62).toNat)
        case atStart => exact ⟨0, M, by omega, HM.out, fun j hj => by simp, rfl, H.out⟩
        case round =>
          obtain ⟨m, R, hm, hR, hMR, rfl, hh⟩ := hrel
          have H7 := Lib.hid hh
          have HMR := Lib.hid hMR
          have HHR := Lib.hid hR
          clear H hx
          by_cases hm8 : m < 8
          · have hm8' : (m : Int) < 8 := by omega
            have cm := hh.I.cell hm8
            by_cases hbit : hasb M m = true
            · rw [hbit] at cm
              obtain ⟨t1, t2⟩ := take_least hm8 hR hMR hbit
              have HT := Lib.hid (hh.take hak t1 hR t2)
              clear hh hR hMR t1 t2 hbit
              go_wp2_with (go_at_call 29; (with_reducible refine HT.out.mono ?_); rintro e w8 ⟨rfl, h8⟩; have H8 := Lib.hid h8; clear h8)
              exact ⟨⟨m + 1, takeb R m, by omega, takeb_lt R m HHR.out hm8, take_next hm8 HHR.out HMR.out, by go_num, H8.out⟩, by simp [intOf]; omega⟩
            · have hbit' : hasb M m = false := by simpa using hbit
              rw [hbit'] at cm
              have HN := Lib.hid (take_skip hMR hbit')
              clear hh hR hMR hbit hbit'
              go_wp2_with fail
              exact ⟨⟨m + 1, R, by omega, HHR.out, HN.out, by go_num, H7.out⟩, by simp [intOf]; omega⟩
          · have hm8' : ¬ (m : Int) < 8 := by omega
            have hR0 : R = 0 := hasb_zero R hR (fun j hj => by rw [hMR j hj]; simp; omega)
            subst hR0
            have HT1 := Lib.hid (hart_take_none x g k _ a _ hh.H hak (by rw [hf_self]))
            have HD := Lib.hid (hart_due_eq x g k _ a _ hh.H hak (v := false) (by rw [hf_self]; simp))
            obtain ⟨c, hc1, hc2, hc3⟩ : ∃ c : Nat, c < k ∧ c ≠ a ∧ ((a : Int) + 1) % k = c := by
              rcases Nat.lt_or_ge (a + 1) k with h | h
              · exact ⟨a + 1, h, by omega, by rw [Int.emod_eq_of_lt (by omega) (by omega)]; omega⟩
              · obtain rfl : k = a + 1 := by omega
                exact ⟨0, by omega, by omega, by rw [show ((a + 1 : Nat) : Int) = (a : Int) + 1 by omega, Int.emod_self]; rfl⟩
            have HT2 := Lib.hid (hart_take_none x g k _ c _ hh.H hc1 (by rw [hf_ne _ hc2]; rfl))
            have hk0 : (0 : Int) < k := by omega
            have hkz : ((k : Int) == 0) = false := beq_eq_false_iff_ne.2 (by omega)
            clear hh hR hMR hc1 hc2
            go_wp2_with (first
              | (go_at_call 29; (with_reducible refine HT1.out.mono ?_); rintro e w' ⟨rfl, rfl⟩)
              | (go_at_call 29; (with_reducible refine HT2.out.mono ?_); rintro e w' ⟨rfl, rfl⟩)
              | (go_at_call 33; (with_reducible refine HD.out.mono ?_); rintro e w' ⟨rfl, rfl⟩)
              | (go_at_call 8; refine (HR.out _).mono ?_; rintro e w8 ⟨rfl, f8⟩; have HF8 := Lib.hid f8; clear f8))
            go_ret
            exact ⟨rfl, (H7.out.F.trans HF8.out).below⟩
end Go.Proofs.Ytkclbgoagcpckaa
