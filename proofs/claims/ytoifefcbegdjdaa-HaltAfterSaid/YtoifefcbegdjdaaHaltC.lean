import Derived.Test.YtoifefcbegdjdaaHaltB
import Derived.LoopTactic
namespace Go.Proofs.Ytoifefcbegdjdaa
open Go.RowKit

/-- `halt.Guard(nil)`. -/
theorem guard_nil (w : World) :
    Calls Try.prog 18 #[.nilFunc] w fun e w' => e = .returned (.tuple #[.agg #[.int .i64 0, .int .i64 0], .bool false]) ∧ Fr (fun _ => False) w w' := by
  have hnn := nil_nil
  go_enter_defers Try.func18, Try.ntmps18
  go_wp2
  refine ⟨.tuple #[.agg #[.int .i64 0, .int .i64 0], .bool false], by simp [results, go_sem], rfl, ?_⟩
  exact (((Fr.refl _ _).alloc _).alloc _)

/-- A row of deeds run by `halt.Run`. `F`: the blocks that the state of the deeds stands on. -/
structure Deeds (fs : List (FuncId × Array Value)) (out : Nat → Stp) (I : Nat → (Nat → Prop) → World → Prop) : Prop where
  enter : ∀ (i : Nat) (p : FuncId × Array Value), fs[i]? = some p → ∀ w, (callFunc p.1 p.2).run Try.prog w = .ok (.enter p.1 p.2) w
  stable : ∀ i F w w', I i F w → Fr (fun k => ¬ F k) w w' → I i F w'
  lt : ∀ i F w, I i F w → ∀ k, F k → k < w.heap.size
  run : ∀ (i : Nat) (p : FuncId × Array Value), fs[i]? = some p → (∀ j, j < i → out j = .ok) → ∀ F w, I i F w →
    Calls Try.prog p.1 p.2 w fun e w' => Tame (out i) e ∧ Fr F w w' ∧ ∃ F', I (i + 1) F' w' ∧ ∀ k, F' k → F k ∨ w.heap.size ≤ k

/-- how many end well, of n from i on -/
def firstStop (out : Nat → Stp) : Nat → Nat → Nat
  | 0, i => i
  | n + 1, i => if (out i).is then i else firstStop out n (i + 1)

theorem firstStop_ok (out : Nat → Stp) (n i : Nat) (h : ∀ j, i ≤ j → j < i + n → (out j).is = false) : firstStop out n i = i + n := by
  induction n generalizing i with
  | zero => rfl
  | succ n ih => rw [firstStop, if_neg (by simp [h i (by omega) (by omega)]), ih (i + 1) (fun j a b => h j (by omega) (by omega))]; omega

theorem firstStop_at (out : Nat → Stp) (n i k : Nat) (hi : i ≤ k) (hk : k < i + n) (h : ∀ j, i ≤ j → j < k → (out j).is = false) (hs : (out k).is = true) : firstStop out n i = k := by
  induction n generalizing i with
  | zero => omega
  | succ n ih =>
    by_cases e : i = k
    · subst e; rw [firstStop, if_pos hs]
    · rw [firstStop, if_neg (by simp [h i (by omega) (by omega)]), ih (i + 1) (by omega) (by omega) (fun j a b => h j (by omega) b)]

def RunRel (bl n : Nat) (fs : List (FuncId × Array Value)) (out : Nat → Stp) (I : Nat → (Nat → Prop) → World → Prop) (F0 : Nat → Prop) (w0 : World) (i : Value) (wr : World) : Prop :=
  ∃ (k : Nat) (F : Nat → Prop), k ≤ n ∧ i = .int .i64 k ∧ I k F wr ∧ (∀ j, j < k → out j = .ok) ∧ (∀ j, F j → F0 j ∨ w0.heap.size < j) ∧ w0.heap.size < wr.heap.size ∧
    (∀ (j : Nat) (p : FuncId × Array Value), fs[j]? = some p → wr.cell? ⟨bl, j, none⟩ = some (.func (.func p.1) #[] p.2)) ∧ Blk wr w0.heap.size #[.int .i64 0, .int .i64 0] 30 ∧ Fr F0 w0 wr

def RunPost (n : Nat) (out : Nat → Stp) (I : Nat → (Nat → Prop) → World → Prop) (F0 : Nat → Prop) (w0 : World) (e : Ending) (w' : World) : Prop :=
  ∃ (f : Nat) (F : Nat → Prop) (s : Stp), f = firstStop out n 0 ∧ e = .returned (.tuple #[.int .i64 f, .agg #[.int .i64 s.why, .int .i64 s.at]]) ∧ s = (if f < n then out f else .ok) ∧
    I (min (f + 1) n) F w' ∧ (∀ j, F j → F0 j ∨ w0.heap.size ≤ j) ∧ Fr F0 w0 w'

set_option maxRecDepth 100000 in
/-- `halt.Run(fs...)`. -/
theorem run_of (fs : List (FuncId × Array Value)) (out : Nat → Stp) (I : Nat → (Nat → Prop) → World → Prop) (D : Deeds fs out I) (F0 : Nat → Prop) (w : World) (bl n cap : Nat)
    (hn : fs.length = n) (hm : n ≤ 9223372036854775807) (hI0 : I 0 F0 w) (hbl : bl < w.heap.size) (hF : ¬ F0 bl)
    (hc : ∀ (j : Nat) (p : FuncId × Array Value), fs[j]? = some p → w.cell? ⟨bl, j, none⟩ = some (.func (.func p.1) #[] p.2)) :
    Calls Try.prog 59 #[.slice (some ⟨bl, 0, none⟩) n cap] w (RunPost n out I F0 w) := by
  go_enter Try.func59, Try.ntmps59
  go_wp2_with fail
  go_loopw [10] (fun i wr => RunRel bl n fs out I F0 w i wr) (fun i _ => n - (intOf i).toNat)
  case atStart =>
    refine ⟨0, F0, Nat.zero_le _, rfl, D.stable _ _ _ _ hI0 ((Fr.refl _ _).alloc _), fun j hj => absurd hj (Nat.not_lt_zero _), fun j hj => .inl hj, by simp, ?_, Blk.new _ _ _, (Fr.refl _ _).alloc _⟩
    intro j p hp
    rw [World.cell?_alloc_past _ _ _ hbl]
    exact hc j p hp
  case round =>
    obtain ⟨k, F, hk, rfl, hI, hout, hF2, hlt, hcells, hb, hfr⟩ := hrel
    by_cases hkn : k < n
    · obtain ⟨p, hp⟩ : ∃ p, fs[k]? = some p := ⟨fs[k], by simp [hn, hkn]⟩
      have hcell := hcells k p hp
      have hent := D.enter k p hp
      have H1 := Lib.hid hcells
      have H2 := Lib.hid hp
      have H3 := Lib.hid hout
      have H4 := Lib.hid hF2
      have H5 := Lib.hid hI
      have H6 := Lib.hid hc
      have H7 := Lib.hid hn
      have H6' := Lib.hid hI0
      have H8 := Lib.hid hent
      clear hcells hp hout hF2 hI hc hn hent hI0
      go_wp2_with fail
      refine (guard_of p.1 p.2 wr _ F (D.lt _ _ _ H5.out) H8.out (D.run k p H2.out H3.out F (gworld wr) (D.stable _ _ _ _ H5.out (gworld_fr _ _))) (fun e w' h => ⟨_, h.1, h.2.1⟩)).mono ?_
      rintro e w2 ⟨s, e1, w1, ⟨hT1, hF1, F', hI1, hF'⟩, hT2, rfl, hf2⟩
      obtain rfl := hT1.uniq hT2
      have hn1 : wr.heap.size + 3 ≤ w1.heap.size := by have := hF1.size; rw [gworld_size] at this; exact this
      have hF3 : ∀ j, F' j → F j ∨ wr.heap.size + 3 ≤ j := fun j hj => by have := hF' j hj; rwa [gworld_size] at this
      have hf12 : Fr F wr w2 := (((gworld_fr wr F).trans hF1).step hf2 (fun i hi h => by omega))
      have hI2 : I (k + 1) F' w2 := D.stable _ _ _ _ hI1 (hf2.mono (fun i hi h => fun hF'i => (hF3 i hF'i).elim (fun h' => by have := D.lt _ _ _ H5.out i h'; omega) (fun h' => by omega)))
      have hb2 : Blk w2 w.heap.size #[.int .i64 0, .int .i64 0] 30 := hb.fr hf12 (fun h => (H4.out _ h).elim (fun h => absurd (D.lt _ _ _ H6'.out _ h) (by omega)) (fun h => by omega))
      have hcells2 : ∀ (j : Nat) (p : FuncId × Array Value), fs[j]? = some p → w2.cell? ⟨bl, j, none⟩ = some (.func (.func p.1) #[] p.2) := fun j q hq =>
        (World.cell?_of_block (hf12.block bl (by omega) (fun h => (H4.out _ h).elim hF (fun h => by omega)))).trans (H1.out j q hq)
      have hF4 : ∀ j, F' j → F0 j ∨ w.heap.size < j := fun j hj => (hF3 j hj).elim (fun h => H4.out j h) (fun h => .inr (by omega))
      have hfr2 : Fr F0 w w2 := hfr.step hf12 (fun i hi h => (H4.out i h).elim (fun h => h) (fun h => by omega))
      have hlt2 : w.heap.size < w2.heap.size := by have := hf12.size; omega
      have Hhb := Lib.hid hb2
      clear hT1 hT2 hF1 hf2 hF' hI1 hF3 hf12 hcell hb hfr
      cases hs : (out k).is
      · have hok := Stp.is_ok hs
        have G1 := Lib.hid hcells2
        have G2 := Lib.hid hF4
        have G3 := Lib.hid hok
        have G4 := Lib.hid hI2
        clear hcells2 hF4 hok hI2
        go_wp2_with fail
        go_roundw
        case rel => 
          refine ⟨k + 1, F', by omega, by go_num, D.stable _ _ _ _ G4.out ((Fr.refl _ _).alloc _), ?_, G2.out, by simp; omega, ?_, (Hhb.out).alloc _, hfr2.alloc _⟩
          · intro j hj
            rcases Nat.lt_or_ge j k with h | h
            · exact H3.out j h
            · have : j = k := by omega
              subst this; exact G3.out
          · intro j q hq
            rw [World.cell?_alloc_past _ _ _ (by omega)]
            exact G1.out j q hq
        case measure => simp [intOf]; omega
      · have G1 := Lib.hid hcells2
        have G2 := Lib.hid hF4
        have G4 := Lib.hid hI2
        clear hcells2 hF4 hI2
        have q0 := Hhb.out.cell 0
        have q1 := Hhb.out.cell 1
        have qf := Hhb.out.frozen
        go_wp2_with fail
        go_region
        all_goals go_wp2
        have k0 := ((((hb2.set 0 (.int .i64 (out k).why)).set 1 (.int .i64 (out k).at)).alloc (.cells #[.int .i64 (out k).why, .int .i64 (out k).at] 30)).drew)
        have r0 := k0.cell 0
        have r1 := k0.cell 1
        have hsr : Fr F0 w ((((w2.setCell ⟨w.heap.size, 0, none⟩ (.int .i64 (out k).why)).setCell ⟨w.heap.size, 1, none⟩ (.int .i64 (out k).at)).alloc (.cells #[.int .i64 (out k).why, .int .i64 (out k).at] 30)).drew) :=
          (((hfr2.setCell (fun h => absurd h (Nat.lt_irrefl _)) _).setCell (fun h => absurd h (Nat.lt_irrefl _)) _).alloc _).drew
        have hI3 : I (k + 1) F' ((((w2.setCell ⟨w.heap.size, 0, none⟩ (.int .i64 (out k).why)).setCell ⟨w.heap.size, 1, none⟩ (.int .i64 (out k).at)).alloc (.cells #[.int .i64 (out k).why, .int .i64 (out k).at] 30)).drew) :=
          have hno : ¬ F' w.heap.size := fun h => (G2.out _ h).elim (fun h => absurd (D.lt _ _ _ H6'.out _ h) (Nat.lt_irrefl _)) (fun h => absurd h (Nat.lt_irrefl _))
          D.stable _ _ _ _ G4.out (((((Fr.refl _ _).setCell (fun _ => hno) _).setCell (fun _ => hno) _).alloc _).drew)
        have hfs : firstStop out n 0 = k := firstStop_at out n 0 k (Nat.zero_le _) (by omega) (fun j _ hj => by rw [H3.out j hj]; rfl) hs
        refine bodyPost_ret (v := .tuple #[.int .i64 k, .agg #[.int .i64 (out k).why, .int .i64 (out k).at]]) (by simp [results, go_sem, r0, r1]) rfl ?_
        exact ⟨k, F', out k, hfs.symm, rfl, by rw [if_pos hkn], by rwa [Nat.min_eq_left (by omega)], fun j hj => (G2.out j hj).imp id (by omega), hsr⟩
    · have e : k = n := by omega
      subst e
      have H1 := Lib.hid hcells
      have H3 := Lib.hid hout
      have H4 := Lib.hid hF2
      have H5 := Lib.hid hI
      have H6 := Lib.hid hc
      have H7 := Lib.hid hn
      clear hcells hout hF2 hI hc hn
      have q0 := hb.cell 0
      have q1 := hb.cell 1
      have qf := hb.frozen
      go_wp2_with fail
      have k0 := ((hb.set 0 (.int .i64 0)).set 1 (.int .i64 0))
      have r0 := k0.cell 0
      have r1 := k0.cell 1
      have hno : ¬ F w.heap.size := fun h => (H4.out _ h).elim (fun h => absurd (D.lt _ _ _ hI0 _ h) (Nat.lt_irrefl _)) (fun h => absurd h (Nat.lt_irrefl _))
      have hfs : firstStop out k 0 = k := by rw [firstStop_ok out k 0 (fun j _ hj => by rw [H3.out j (by omega)]; rfl)]; omega
      refine bodyPost_ret (v := .tuple #[.int .i64 k, .agg #[.int .i64 0, .int .i64 0]]) (by simp [results, go_sem, r0, r1]) rfl ?_
      exact ⟨k, F, .ok, hfs.symm, rfl, by rw [if_neg (by omega)], by rw [Nat.min_eq_right (by omega)]; exact D.stable _ _ _ _ H5.out (((Fr.refl _ _).setCell (fun _ => hno) _).setCell (fun _ => hno) _), fun j hj => (H4.out j hj).imp id (by omega), ((hfr.setCell (fun h => absurd h (Nat.lt_irrefl _)) _).setCell (fun h => absurd h (Nat.lt_irrefl _)) _)⟩
end Go.Proofs.Ytoifefcbegdjdaa
