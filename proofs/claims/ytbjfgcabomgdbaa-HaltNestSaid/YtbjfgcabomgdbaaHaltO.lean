import Derived.Test.YtbjfgcabomgdbaaHaltN
namespace Go.Proofs.Ytbjfgcabomgdbaa
open Go.RowKit

/-- the first stop from i on, of m -/
def backN (out : Nat → Stp) (m i : Nat) : Nat := firstStop out (m - i) i
def backS (out : Nat → Stp) (m i : Nat) : Stp := if backN out m i < m then out (backN out m i) else .ok

theorem backN_stop {out : Nat → Stp} {m j : Nat} (hj : j < m) (h : (out j).is = true) : backN out m j = j ∧ backS out m j = out j := by
  have e : backN out m j = j := by
    unfold backN
    rw [show m - j = (m - (j + 1)) + 1 by omega, firstStop, if_pos h]
  refine ⟨e, ?_⟩
  unfold backS
  rw [e, if_pos hj]

theorem backN_go {out : Nat → Stp} {m j : Nat} (hj : j < m) (h : (out j).is = false) : backN out m j = backN out m (j + 1) ∧ backS out m j = backS out m (j + 1) := by
  have e : backN out m j = backN out m (j + 1) := by
    unfold backN
    rw [show m - j = (m - (j + 1)) + 1 by omega, firstStop, if_neg (by simp [h])]
  refine ⟨e, ?_⟩
  unfold backS
  rw [e]

theorem back_end (out : Nat → Stp) (m : Nat) : backN out m 0 = firstStop out m 0 ∧ backS out m 0 = firstS out m := ⟨rfl, rfl⟩
theorem back_top (out : Nat → Stp) (m : Nat) : backN out m m = m ∧ backS out m m = .ok := by
  have e : backN out m m = m := by unfold backN; rw [Nat.sub_self]; rfl
  exact ⟨e, by unfold backS; rw [e, if_neg (Nat.lt_irrefl _)]⟩

def BackRel (out : Nat → Stp) (m b12 : Nat) (W : World) (t11 t13 : Value) (w : World) : Prop :=
  ∃ i : Nat, i ≤ m ∧ t13 = .int .i64 ((i : Int) - 1) ∧ t11 = .int .i64 (backN out m i) ∧ Blk w b12 #[.int .i64 (backS out m i).why, .int .i64 (backS out m i).at] 23 ∧ Fr (fun k => k = b12) W w

set_option maxHeartbeats 2000000 in
set_option maxRecDepth 100000 in
theorem haltNest_walk (a : Option Addr) (len cap : Nat) (V : Nat → Nat → Value) (a2 : Option Addr) (len2 cap2 : Nat) (V2 : Nat → Nat → Value) (w : World) (s : IsSl [.int .i64, .int .i64] w a len cap V) (s2 : IsSl [.int .i64, .int .i64] w a2 len2 cap2 V2) :
    Calls Try.prog 6 #[.slice a len cap, .slice a2 len2 cap2] w fun e w' => e = .returned (.bool true) ∧ Below w.heap.size w w' := by
  obtain ⟨hlc, hcm, hnil⟩ := s.cap
  obtain ⟨hlc2, hcm2, hnil2⟩ := s2.cap
  obtain ⟨K, A, hK⟩ := Deeds2.of s
  obtain ⟨K2, A2, hK2⟩ := Deeds2.of s2
  obtain ⟨m, hm⟩ : ∃ m, m = min len 6 := ⟨_, rfl⟩
  have hm0 : m ≤ len := by omega
  have hm1 : m ≤ 6 := by omega
  have hmf : ∀ (fn : Fn) (first cap : Array Value) (w : World), (Instr.makeFunc fn first cap).run Try.prog w = .ok (.func fn first cap) w := fun _ _ _ _ => rfl
  have HM := Lib.hid hm
  have HK := Lib.hid hK
  have HK2 := Lib.hid hK2
  clear hm hK hK2 hnil hnil2 s s2
  go_enter Try.func6, Try.ntmps6
  go_wp2_with fail
  have f0 : Fr (fun _ => False) w (((((((w.alloc (.cells #[.slice a len cap] 32)).alloc (.cells #[.slice a2 len2 cap2] 32)).alloc (.cells #[.slice none 0 0] 27)).alloc (.cells #[.int .i64 0] 3)).alloc (.cells #[.int .i64 0] 3)).alloc (.cells #[.int .i64 0, .int .i64 0] 23)).alloc (.cells #[.func (.func 30) #[] #[.pointer (some ⟨w.heap.size, 0, none⟩), .pointer (some ⟨w.heap.size + 1 + 1, 0, none⟩), .pointer (some ⟨w.heap.size + 1 + 1 + 1, 0, none⟩), .pointer (some ⟨w.heap.size + 1 + 1 + 1 + 1 + 1, 0, none⟩)], .func (.func 32) #[] #[.pointer (some ⟨w.heap.size + 1 + 1 + 1 + 1, 0, none⟩)]] 1)) := (((((((Fr.refl _ w).alloc _).alloc _).alloc _).alloc _).alloc _).alloc _).alloc _
  have b0 : Blk (((((((w.alloc (.cells #[.slice a len cap] 32)).alloc (.cells #[.slice a2 len2 cap2] 32)).alloc (.cells #[.slice none 0 0] 27)).alloc (.cells #[.int .i64 0] 3)).alloc (.cells #[.int .i64 0] 3)).alloc (.cells #[.int .i64 0, .int .i64 0] 23)).alloc (.cells #[.func (.func 30) #[] #[.pointer (some ⟨w.heap.size, 0, none⟩), .pointer (some ⟨w.heap.size + 1 + 1, 0, none⟩), .pointer (some ⟨w.heap.size + 1 + 1 + 1, 0, none⟩), .pointer (some ⟨w.heap.size + 1 + 1 + 1 + 1 + 1, 0, none⟩)], .func (.func 32) #[] #[.pointer (some ⟨w.heap.size + 1 + 1 + 1 + 1, 0, none⟩)]] 1)) (w.heap.size) #[.slice a len cap] 32 := (((((((Blk.at_new (by simp)).alloc _).alloc _).alloc _).alloc _).alloc _).alloc _)
  have b1 : Blk (((((((w.alloc (.cells #[.slice a len cap] 32)).alloc (.cells #[.slice a2 len2 cap2] 32)).alloc (.cells #[.slice none 0 0] 27)).alloc (.cells #[.int .i64 0] 3)).alloc (.cells #[.int .i64 0] 3)).alloc (.cells #[.int .i64 0, .int .i64 0] 23)).alloc (.cells #[.func (.func 30) #[] #[.pointer (some ⟨w.heap.size, 0, none⟩), .pointer (some ⟨w.heap.size + 1 + 1, 0, none⟩), .pointer (some ⟨w.heap.size + 1 + 1 + 1, 0, none⟩), .pointer (some ⟨w.heap.size + 1 + 1 + 1 + 1 + 1, 0, none⟩)], .func (.func 32) #[] #[.pointer (some ⟨w.heap.size + 1 + 1 + 1 + 1, 0, none⟩)]] 1)) (w.heap.size + 1) #[.slice a2 len2 cap2] 32 := ((((((Blk.at_new (by simp)).alloc _).alloc _).alloc _).alloc _).alloc _)
  have b2 : Blk (((((((w.alloc (.cells #[.slice a len cap] 32)).alloc (.cells #[.slice a2 len2 cap2] 32)).alloc (.cells #[.slice none 0 0] 27)).alloc (.cells #[.int .i64 0] 3)).alloc (.cells #[.int .i64 0] 3)).alloc (.cells #[.int .i64 0, .int .i64 0] 23)).alloc (.cells #[.func (.func 30) #[] #[.pointer (some ⟨w.heap.size, 0, none⟩), .pointer (some ⟨w.heap.size + 1 + 1, 0, none⟩), .pointer (some ⟨w.heap.size + 1 + 1 + 1, 0, none⟩), .pointer (some ⟨w.heap.size + 1 + 1 + 1 + 1 + 1, 0, none⟩)], .func (.func 32) #[] #[.pointer (some ⟨w.heap.size + 1 + 1 + 1 + 1, 0, none⟩)]] 1)) (w.heap.size + 1 + 1) #[.slice none 0 0] 27 := (((((Blk.at_new (by simp)).alloc _).alloc _).alloc _).alloc _)
  have b3 : Blk (((((((w.alloc (.cells #[.slice a len cap] 32)).alloc (.cells #[.slice a2 len2 cap2] 32)).alloc (.cells #[.slice none 0 0] 27)).alloc (.cells #[.int .i64 0] 3)).alloc (.cells #[.int .i64 0] 3)).alloc (.cells #[.int .i64 0, .int .i64 0] 23)).alloc (.cells #[.func (.func 30) #[] #[.pointer (some ⟨w.heap.size, 0, none⟩), .pointer (some ⟨w.heap.size + 1 + 1, 0, none⟩), .pointer (some ⟨w.heap.size + 1 + 1 + 1, 0, none⟩), .pointer (some ⟨w.heap.size + 1 + 1 + 1 + 1 + 1, 0, none⟩)], .func (.func 32) #[] #[.pointer (some ⟨w.heap.size + 1 + 1 + 1 + 1, 0, none⟩)]] 1)) (w.heap.size + 1 + 1 + 1) #[.int .i64 0] 3 := ((((Blk.at_new (by simp)).alloc _).alloc _).alloc _)
  have b4 : Blk (((((((w.alloc (.cells #[.slice a len cap] 32)).alloc (.cells #[.slice a2 len2 cap2] 32)).alloc (.cells #[.slice none 0 0] 27)).alloc (.cells #[.int .i64 0] 3)).alloc (.cells #[.int .i64 0] 3)).alloc (.cells #[.int .i64 0, .int .i64 0] 23)).alloc (.cells #[.func (.func 30) #[] #[.pointer (some ⟨w.heap.size, 0, none⟩), .pointer (some ⟨w.heap.size + 1 + 1, 0, none⟩), .pointer (some ⟨w.heap.size + 1 + 1 + 1, 0, none⟩), .pointer (some ⟨w.heap.size + 1 + 1 + 1 + 1 + 1, 0, none⟩)], .func (.func 32) #[] #[.pointer (some ⟨w.heap.size + 1 + 1 + 1 + 1, 0, none⟩)]] 1)) (w.heap.size + 1 + 1 + 1 + 1) #[.int .i64 0] 3 := (((Blk.at_new (by simp)).alloc _).alloc _)
  have b5 : Blk (((((((w.alloc (.cells #[.slice a len cap] 32)).alloc (.cells #[.slice a2 len2 cap2] 32)).alloc (.cells #[.slice none 0 0] 27)).alloc (.cells #[.int .i64 0] 3)).alloc (.cells #[.int .i64 0] 3)).alloc (.cells #[.int .i64 0, .int .i64 0] 23)).alloc (.cells #[.func (.func 30) #[] #[.pointer (some ⟨w.heap.size, 0, none⟩), .pointer (some ⟨w.heap.size + 1 + 1, 0, none⟩), .pointer (some ⟨w.heap.size + 1 + 1 + 1, 0, none⟩), .pointer (some ⟨w.heap.size + 1 + 1 + 1 + 1 + 1, 0, none⟩)], .func (.func 32) #[] #[.pointer (some ⟨w.heap.size + 1 + 1 + 1 + 1, 0, none⟩)]] 1)) (w.heap.size + 1 + 1 + 1 + 1 + 1) #[.int .i64 0, .int .i64 0] 23 := ((Blk.at_new (by simp)).alloc _)
  have b6 := (show Blk (((((((w.alloc (.cells #[.slice a len cap] 32)).alloc (.cells #[.slice a2 len2 cap2] 32)).alloc (.cells #[.slice none 0 0] 27)).alloc (.cells #[.int .i64 0] 3)).alloc (.cells #[.int .i64 0] 3)).alloc (.cells #[.int .i64 0, .int .i64 0] 23)).alloc (.cells #[.func (.func 30) #[] #[.pointer (some ⟨w.heap.size, 0, none⟩), .pointer (some ⟨w.heap.size + 1 + 1, 0, none⟩), .pointer (some ⟨w.heap.size + 1 + 1 + 1, 0, none⟩), .pointer (some ⟨w.heap.size + 1 + 1 + 1 + 1 + 1, 0, none⟩)], .func (.func 32) #[] #[.pointer (some ⟨w.heap.size + 1 + 1 + 1 + 1, 0, none⟩)]] 1)) (w.heap.size + 1 + 1 + 1 + 1 + 1 + 1) _ _ from (Blk.at_new (by simp)))
  have hsz : (((((((w.alloc (.cells #[.slice a len cap] 32)).alloc (.cells #[.slice a2 len2 cap2] 32)).alloc (.cells #[.slice none 0 0] 27)).alloc (.cells #[.int .i64 0] 3)).alloc (.cells #[.int .i64 0] 3)).alloc (.cells #[.int .i64 0, .int .i64 0] 23)).alloc (.cells #[.func (.func 30) #[] #[.pointer (some ⟨w.heap.size, 0, none⟩), .pointer (some ⟨w.heap.size + 1 + 1, 0, none⟩), .pointer (some ⟨w.heap.size + 1 + 1 + 1, 0, none⟩), .pointer (some ⟨w.heap.size + 1 + 1 + 1 + 1 + 1, 0, none⟩)], .func (.func 32) #[] #[.pointer (some ⟨w.heap.size + 1 + 1 + 1 + 1, 0, none⟩)]] 1)).heap.size = w.heap.size + 1 + 1 + 1 + 1 + 1 + 1 + 1 := by simp
  generalize (((((((w.alloc (.cells #[.slice a len cap] 32)).alloc (.cells #[.slice a2 len2 cap2] 32)).alloc (.cells #[.slice none 0 0] 27)).alloc (.cells #[.int .i64 0] 3)).alloc (.cells #[.int .i64 0] 3)).alloc (.cells #[.int .i64 0, .int .i64 0] 23)).alloc (.cells #[.func (.func 30) #[] #[.pointer (some ⟨w.heap.size, 0, none⟩), .pointer (some ⟨w.heap.size + 1 + 1, 0, none⟩), .pointer (some ⟨w.heap.size + 1 + 1 + 1, 0, none⟩), .pointer (some ⟨w.heap.size + 1 + 1 + 1 + 1 + 1, 0, none⟩)], .func (.func 32) #[] #[.pointer (some ⟨w.heap.size + 1 + 1 + 1 + 1, 0, none⟩)]] 1)) = W at *
  have ha : ∀ b off, a = some ⟨b, off, none⟩ → b < w.heap.size ∨ len = 0 := by
    intro b off h
    rcases HK.out with h0 | ⟨b', off', h', hb, _⟩
    · exact .inr h0
    · rw [h] at h'; simp at h'; exact .inl (h'.1 ▸ hb)
  refine (run_of _ _ _ (nest_deeds w (w.heap.size + 1) (.slice a2 len2 cap2) a len cap K A (w.heap.size) (w.heap.size + 1 + 1) (w.heap.size + 1 + 1 + 1) (w.heap.size + 1 + 1 + 1 + 1) (w.heap.size + 1 + 1 + 1 + 1 + 1) (w.heap.size + 1 + 1 + 1 + 1 + 1 + 1) hlc hcm (by omega)) (fun x => x < w.heap.size + 1 + 1 + 1 + 1 + 1 + 1 ∨ Of (.slice none 0 0) x) W (w.heap.size + 1 + 1 + 1 + 1 + 1 + 1) 2 2 rfl (by omega)
    ⟨b0, b1, HK.out.fr f0 (fun _ _ _ _ => id), by simpa using b3, by simpa using b5, by simpa using b4, ⟨.slice none 0 0, 0, [], by omega, b2, Own.nil _ _ _, fun _ => rfl, fun x => Iff.rfl, fun x hx => by simp [Of, Value.ownBlock] at hx⟩,
      ⟨by omega, by omega, by omega, by omega, by omega, by omega, by omega, by omega, ha⟩, ⟨by omega, by omega, by omega, by omega⟩, f0⟩ (by omega)
    (fun h => h.elim (fun h => absurd h (Nat.lt_irrefl _)) (fun h => by simp [Of, Value.ownBlock] at h))
    (by
      intro j p hp
      match j, hp with
      | 0, hp => simp at hp; subst hp; exact b6.cell 0
      | 1, hp => simp at hp; subst hp; exact b6.cell 1
      | j + 2, hp => simp at hp)).mono ?_
  rintro e w3 ⟨f, F, t, hf, rfl, ht, ⟨hl, hx0, hd, hi, hff, ho, ⟨v, n, xs, hn, h1, h2, _, _, h5⟩, _, _, hfr⟩, _, _⟩
  obtain rfl : f = 2 := hf
  obtain rfl : t = .ok := ht
  have hm' := HM.out
  rw [← hm'] at hi hff
  have e2 : min (2 + 1) 2 = 2 := rfl
  rw [e2] at hi hff ho
  simp at hi hff ho
  have hsz3 := hfr.size
  have c0 := hl.cell 0
  have lt0 := hl.lt
  have g1 := Lib.hid hl
  have g2 := Lib.hid hx0
  have g3 := Lib.hid hi
  have g4 := Lib.hid hff
  have g5 := Lib.hid ho
  have g6 := Lib.hid h1
  have g7 := Lib.hid h2
  have g8 := Lib.hid h5
  have g9 := Lib.hid hfr
  have HW := Lib.hid hsz
  clear b0 b1 b2 b3 b4 b5 b6 hl hx0 hd hi hff ho h1 h2 h5 hfr f0 hsz hm'
  go_wp2_with fail
  all_goals
    go_loopw [11, 13] (fun t11 t13 wr => BackRel (fun i => outD (K i) (A i)) m (w3.heap.size + 1) ((w3.alloc (.cells #[.int .i64 0, .int .i64 0] 23)).alloc (.cells #[.int .i64 0, .int .i64 0] 23)) t11 t13 wr) (fun _ i _ => (intOf i + 1).toNat)
    case atStart =>
      have hm' := HM.out
      have e := back_top (fun i => outD (K i) (A i)) m
      refine ⟨m, Nat.le_refl _, ?_, ?_, ?_, Fr.refl _ _⟩
      · exact congrArg (Value.int .i64) (by omega)
      · rw [e.1]; exact congrArg (Value.int .i64) (by omega)
      · rw [e.2]; exact Blk.at_new (by simp)
    case round =>
      obtain ⟨i, hi, rfl, rfl, hb, hfr⟩ := hrel
      have hl3 := (g1.out.alloc (.cells #[.int .i64 0, .int .i64 0] 23)).alloc (.cells #[.int .i64 0, .int .i64 0] 23)
      have hl4 := hl3.fr hfr (by omega)
      have cl := hl4.cell 0
      have hsr := hfr.size
      simp only [World.size_alloc] at hsr
      by_cases hi0 : 0 < i
      · obtain ⟨j, rfl⟩ : ∃ j, i = j + 1 := ⟨i - 1, by omega⟩
        rw [show (((j + 1 : Nat) : Int) - 1) = (j : Int) from by omega]
        rcases HK.out with h | ⟨b, off, ha', hbw, hc⟩
        · omega
        subst ha'
        have c0' := (World.cell?_of_block (hfr.block b (by simp; omega) (by omega))).trans ((World.cell?_of_block ((((g9.out.alloc (.cells #[.int .i64 0, .int .i64 0] 23)).alloc (.cells #[.int .i64 0, .int .i64 0] 23))).block b hbw id)).trans (hc j (by omega)).1)
        have c1' := (World.cell?_of_block (hfr.block b (by simp; omega) (by omega))).trans ((World.cell?_of_block ((((g9.out.alloc (.cells #[.int .i64 0, .int .i64 0] 23)).alloc (.cells #[.int .i64 0, .int .i64 0] 23))).block b hbw id)).trans (hc j (by omega)).2)
        have k1 := Lib.hid hb
        have k2 := Lib.hid hfr
        have q0 := hb.cell 0
        have q1 := hb.cell 1
        have qf := hb.frozen
        have ql := hb.lt
        have hjl : j < len := by omega
        clear hc hb hfr hl3 hl4
        go_wp2_with (go_at_call 25; refine (stops_any _ _ _).mono ?_; rintro e w4 ⟨rfl, f4⟩; have F4 := Lib.hid f4; have q0 := (k1.out.fr f4 id).cell 0; have q1 := (k1.out.fr f4 id).cell 1; have qf := (k1.out.fr f4 id).frozen; have ql := (k1.out.fr f4 id).lt; clear f4)
        case roundEnd =>
          have hw : (outD (K j) (A j)).is = false := by assumption
          have e := backN_go (out := fun i => outD (K i) (A i)) (m := m) (j := j) (by omega) hw
          exact ⟨⟨j, by omega, rfl, by rw [e.1], by rw [e.2]; exact (k1.out.fr F4.out id).alloc _, (k2.out.step F4.out (fun _ _ h => h.elim)).alloc _⟩, by simp [intOf]⟩
        have his : (outD (K j) (A j)).is = true := by assumption
        have E := Lib.hid (backN_stop (out := fun i => outD (K i) (A i)) (m := m) (j := j) (by omega) his)
        go_region
        all_goals go_wp2_with fail
        all_goals
          refine ⟨⟨j, by omega, rfl, by rw [E.out.1], ?_, ?_⟩, by simp [intOf]⟩
          · rw [E.out.2]
            exact ((((k1.out.fr F4.out id).set 0 _).set 1 _).alloc _).drew
          · exact ((((k2.out.step F4.out (fun _ _ h => h.elim)).setCell (fun _ => rfl) _).setCell (fun _ => rfl) _).alloc _).drew
      · obtain rfl : i = 0 := by omega
        rw [show (((0 : Nat) : Int) - 1) = -1 from rfl]
        have e := back_end (fun i => outD (K i) (A i)) m
        rw [e.2] at hb
        rw [e.1]
        clear e
        have a1 := ((g2.out.alloc (.cells #[.int .i64 0, .int .i64 0] 23)).alloc (.cells #[.int .i64 0, .int .i64 0] 23)).fr hfr (by omega)
        have a2 := ((g3.out.alloc (.cells #[.int .i64 0, .int .i64 0] 23)).alloc (.cells #[.int .i64 0, .int .i64 0] 23)).fr hfr (by omega)
        have a3 := ((g4.out.alloc (.cells #[.int .i64 0, .int .i64 0] 23)).alloc (.cells #[.int .i64 0, .int .i64 0] 23)).fr hfr (by omega)
        have a4 := ((g5.out.alloc (.cells #[.int .i64 0, .int .i64 0] 23)).alloc (.cells #[.int .i64 0, .int .i64 0] 23)).fr hfr (by omega)
        have a5 := ((Blk.new w3 #[.int .i64 0, .int .i64 0] 23).alloc (.cells #[.int .i64 0, .int .i64 0] 23)).fr hfr (by omega)
        have a6 := ((g6.out.alloc (.cells #[.int .i64 0, .int .i64 0] 23)).alloc (.cells #[.int .i64 0, .int .i64 0] 23)).fr hfr (by omega)
        have fW : Fr (fun _ => False) w3 ((w3.alloc (.cells #[.int .i64 0, .int .i64 0] 23)).alloc (.cells #[.int .i64 0, .int .i64 0] 23)) := ((Fr.refl _ w3).alloc _).alloc _
        have a7 := (g7.out.fr fW (fun _ _ => id)).fr hfr (fun k hk h => by have := g7.out.lt hk; omega)
        have fr0 : Fr (fun _ => False) w wr := (g9.out.trans fW).step hfr (fun k hk h => by omega)
        generalize firstStop (fun i => outD (K i) (A i)) m 0 = f at *
        generalize firstS (fun i => outD (K i) (A i)) m = sS at *
        have x1 := a1.cell 0
        have x2 := a2.cell 0
        have x30 := a3.cell 0
        have x31 := a3.cell 1
        have x4 := a4.cell 0
        have x50 := a5.cell 0
        have x51 := a5.cell 1
        have xb0 := hb.cell 0
        have xb1 := hb.cell 1
        have A1 := Lib.hid a1
        have A6 := Lib.hid a6
        have A7 := Lib.hid a7
        have A8 := Lib.hid fr0
        clear a1 a2 a3 a4 a5 a6 a7 hb hfr fr0 fW hl3 hl4
        have HR := Lib.hid haltRuns_any
        by_cases hl2 : 0 < len2
        · have hl2' : (0 : Int) < len2 := by omega
          go_wp2_with fail
          have h6 : ∀ b off, a2 = some ⟨b, off, none⟩ → b < w.heap.size := by
            intro b off h
            rcases HK2.out with h0 | ⟨b', off', h', hb, _⟩
            · omega
            · rw [h] at h'; simp at h'; exact h'.1 ▸ hb
          have g := gworld_fr wr (fun _ => False)
          have szr := A8.out.size
          have lt6 := A6.out.lt
          have lt7 := fun k (hk : Of v k) => A7.out.lt hk
          refine (guard_of 33 _ wr (fun e w' => Tame .ok e ∧ Fr (fun k => k = w.heap.size + 1 + 1 ∨ Of v k) (gworld wr) w') (fun k => k = w.heap.size + 1 + 1 ∨ Of v k) (fun k h => h.elim (fun h => h ▸ lt6) (lt7 k)) (fun w => by simp [go_sem])
            (nestGuarded w a2 len2 cap2 K2 A2 (w.heap.size + 1) (w.heap.size + 1 + 1) v n xs (gworld wr) hl2 hlc2 (A1.out.fr g id) ((HK2.out.fr A8.out (fun _ _ _ _ => id)).fr g (fun _ _ _ _ => id)) (by omega) (A6.out.fr g id) (A7.out.fr g (fun _ _ => id)) (fun x hx => by have := g8.out x hx; omega) (by omega) h6 (Nat.le_trans szr g.size)) (fun e w' h => ⟨_, h⟩)).mono ?_
          rintro e w2 ⟨s, e1, w1, ⟨ht, f1⟩, ht2, rfl, f2⟩
          obtain rfl := ht.uniq ht2
          have f3 : Fr (fun _ => False) w w2 := (A8.out.step ((gworld_fr wr _).trans f1) (fun k hk h => h.elim (fun h => by omega) (fun h => by have := g8.out k h; omega))).step f2 (fun k hk h => by omega)
          have F3 := Lib.hid f3
          clear ht ht2 f1 f2 f3 g lt6 lt7
          simp only [Stp.why_o, Stp.at_o, Stp.is_o]
          go_wp2_with (go_at_call 3; refine (HR.out _).mono ?_; rintro e w5 ⟨rfl, f5⟩; have F5 := Lib.hid f5; clear f5)
          go_ret
          exact ⟨rfl, ((F3.out.alloc _).step F5.out (fun _ _ h => h.elim)).below⟩
        · obtain rfl : len2 = 0 := by omega
          go_wp2_with (go_at_call 3; refine (HR.out _).mono ?_; rintro e w5 ⟨rfl, f5⟩; have F5 := Lib.hid f5; clear f5)
          go_ret
          exact ⟨rfl, (A8.out.trans F5.out).below⟩
end Go.Proofs.Ytbjfgcabomgdbaa
