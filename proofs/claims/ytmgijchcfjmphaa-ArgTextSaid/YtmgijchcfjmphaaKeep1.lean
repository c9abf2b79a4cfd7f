import Derived.Test.YtmgijchcfjmphaaRef7
import Derived.Deep.Cut
import Derived.Deep.CutRange
namespace Go.Proofs.Ytmgijchcfjmphaa
open Go.RowKit
attribute [local irreducible] wrCells

theorem ref_newstore1 (w : World) : Calls Try.prog 30 #[] w fun e w' => e = .returned (.pointer (some ⟨w.heap.size + 1, 0, none⟩)) ∧ Fr (fun _ => False) w w' ∧ RefS w' (w.heap.size + 1) w.heap.size [] := by
  have hmm := fun t w => run_makeMap (P := Try.prog) t w
  go_enter Try.func30, Try.ntmps30
  go_wp2_with fail
  go_ret
  exact ⟨by simp, ((Fr.refl _ _).alloc _).alloc _, Blk.at_new (by simp), (MapB.new _ _ rfl).alloc _⟩
/-- what is written of a value -/
def cutV (x : Val) : Val := x.str (x.s.extract 0 (min x.s.size 200))
theorem cutV_ok {x : Val} (h : x.Ok) : (cutV x).Ok := h.str (by simp [ByteArray.size_extract]; omega)
/-- so many writes are read at a block -/
def IsWr (w : World) (b n : Nat) (K : Nat → Key) (X : Nat → Val) : Prop := ∀ i, i < n → rowAt w b (i * 19) 19 = some (wrCells (K i) (X i))
theorem rowAt_fr {S : Nat → Prop} {w w' : World} (f : Fr S w w') {b o n : Nat} {c : Array Value} (h : rowAt w b o n = some c) (hs : ¬ S b) : rowAt w' b o n = some c := by
  have hb : b < w.heap.size := by
    rcases Nat.lt_or_ge b w.heap.size with k | k
    · exact k
    · simp [rowAt, Array.getElem?_eq_none k] at h
  unfold rowAt at h ⊢
  rw [f.block b hb hs]
  exact h
def stK (K : Nat → Key) (X : Nat → Val) : Nat → Nat → Val
  | 0 => fun _ => Val.zero
  | i + 1 => putAt (stK K X i) (K i) (cutV (X i))
structure NewI (w w' : World) (s g d mb t : Nat) (st : Nat → Val) (l : List (Int × Value)) : Prop where
  fr : Fr (fun _ => False) w w'
  lo : w.heap.size ≤ s ∧ w.heap.size ≤ g
  st : StB w' s g st
  rf : RefS w' d mb l
  tb : Blk w' t #[.pointer (some ⟨s, 0, none⟩), .pointer none, .pointer (some ⟨d, 0, none⟩), .pointer none] 30
  ne : s < mb ∧ g < mb ∧ mb < d ∧ d < t ∧ s ≠ g
variable {w wr w' : World} {s g d mb t : Nat} {st st' : Nat → Val} {l l' : List (Int × Value)}
theorem NewI.fr0 (h : NewI w wr s g d mb t st l) (f : Fr (fun _ => False) wr w') : NewI w w' s g d mb t st l :=
  ⟨h.fr.trans f, h.lo, h.st.fr f id id, ⟨h.rf.1.fr f id, h.rf.2.fr f id⟩, h.tb.fr f id, h.ne⟩
theorem NewI.put (h : NewI w wr s g d mb t st l) (k : StB w' s g st') (f : Fr (fun k => k = g) wr w') : NewI w w' s g d mb t st' l :=
  ⟨h.fr.step f (fun i hi e => by have := h.lo.2; omega), h.lo, k, ⟨h.rf.1.fr f (by have := h.ne; omega), h.rf.2.fr f (by have := h.ne; omega)⟩, h.tb.fr f (by have := h.ne; omega), h.ne⟩
theorem NewI.ref (h : NewI w wr s g d mb t st l) (k : RefS w' d mb l') (f : Fr (fun k => k = mb) wr w') : NewI w w' s g d mb t st l' :=
  ⟨h.fr.step f (fun i hi e => by have := h.lo; have := h.ne; omega), h.lo, h.st.fr f (by have := h.ne; omega) (by have := h.ne; omega), k, h.tb.fr f (by have := h.ne; omega), h.ne⟩

set_option maxRecDepth 100000 in
set_option maxHeartbeats 1000000 in
theorem keep_new (b n : Nat) (K : Nat → Key) (X : Nat → Val) (w : World) (hn : n ≤ 60) (hb : IsWr w b n K X) (hx : ∀ i, (X i).Ok) : Calls Try.prog 14 #[.slice (some ⟨b, 0, none⟩) n n] w fun e w' => ∃ t V, e = .returned (.pointer (some ⟨t, 0, none⟩)) ∧ TwoB w' t V (.of (stK K X n)) ∧ Fr (fun _ => False) w w' ∧ ∀ k, V.has k → w.heap.size ≤ k := by
  have HB := Lib.hid hb
  have HX := Lib.hid hx
  clear hb hx
  go_enter Try.func14, Try.ntmps14
  go_wp2_with fail
  refine (store_new _).mono ?_
  rintro e w1 ⟨s, g, rfl, h1, f1, l1, l2⟩
  have HS1 := Lib.hid h1
  have HF1 := Lib.hid f1
  have HL := Lib.hid (And.intro l1 l2)
  clear h1 f1 l1 l2
  go_wp2_with fail
  refine (ref_newstore1 _).mono ?_
  rintro e w2 ⟨rfl, f2, r2⟩
  have HF2 := Lib.hid f2
  have HR2 := Lib.hid r2
  clear f2 r2
  go_wp2_with fail
  obtain ⟨d, hd⟩ : ∃ d, d = w1.heap.size + 1 := ⟨_, rfl⟩
  obtain ⟨t, ht⟩ : ∃ t, t = w2.heap.size := ⟨_, rfl⟩
  rw [← hd, ← ht]
  rw [← hd] at HR2
  have HI : Hid (NewI w (w2.alloc (.cells #[.pointer (some ⟨s, 0, none⟩), .pointer none, .pointer (some ⟨d, 0, none⟩), .pointer none] 30)) s g d w1.heap.size t (stK K X 0) []) := by
    have f3 : Fr (fun _ => False) w2 (w2.alloc (.cells #[.pointer (some ⟨s, 0, none⟩), .pointer none, .pointer (some ⟨d, 0, none⟩), .pointer none] 30)) := (Fr.refl _ _).alloc _
    have q1 := HS1.out.h.lt
    have q2 := HS1.out.a.lt
    have q3 := HR2.out.1.lt
    exact ⟨HF1.out.trans (HF2.out.trans f3), HL.out, HS1.out.fr (HF2.out.trans f3) id id, ⟨HR2.out.1.fr f3 id, HR2.out.2.fr f3 id⟩, ht ▸ Blk.new _ _ _, q1, q2, by omega, by omega, fun e => by subst e; exact HS1.out.a.ne HS1.out.h (by decide) rfl⟩
  clear HS1 HF1 HF2 HR2 HL
  obtain ⟨mb, hmb⟩ : ∃ m, m = w1.heap.size := ⟨_, rfl⟩
  rw [← hmb] at HI
  clear hmb hd ht
  go_loopw [4] (fun t4 wr => ∃ (i : Nat) (l : List (Int × Value)), i ≤ n ∧ t4 = .int .i64 i ∧ NewI w wr s g d mb t (stK K X i) l) (fun t4 _ => (n - intOf t4).toNat)
  case atStart => exact ⟨0, [], by omega, rfl, HI.out⟩
  case round =>
    obtain ⟨i, l, hi, rfl, hI⟩ := hrel
    have c0 := hI.tb.cell 0
    have c2 := hI.tb.cell 2
    have HN := Lib.hid hI
    clear HI hI
    by_cases hlt : i < n
    · have hlt' : (i : Int) < n := by omega
      have h60 : (i : Int) < 60 := by omega
      have hrow := rowAt_fr HN.out.fr (HB.out i hlt) id
      by_cases hcs : (200 : Int) < (X i).s.size
      have hcs2 : (200 : Int) ≤ (X i).s.size := by omega
      have HC := Lib.hid (show (X i).str ((X i).s.extract 0 200) = cutV (X i) by unfold cutV; rw [show min (X i).s.size 200 = 200 by omega])
      rotate_left 1
      have HC := Lib.hid (show (X i).str (X i).s = cutV (X i) by unfold cutV; rw [show min (X i).s.size 200 = (X i).s.size by omega]; simp [ByteArray.extract_zero_size])
      all_goals (
        go_upto_region 9 with fail
        rw [HC.out]
        have HA := Lib.hid (HN.out.fr0 ((Fr.refl _ _).alloc (.cells (wrCells (K i) (cutV (X i))) 63)))
        have HW := Lib.hid (Blk.new wr (wrCells (K i) (cutV (X i))) 63)
        have c0' := HA.out.tb.cell 0
        clear HC hcs c0 c2
        try clear hcs2
        obtain ⟨xb, hxb⟩ : ∃ xb, xb = wr.heap.size := ⟨_, rfl⟩
        have HS := Lib.hid (show stK K X (i + 1) = putAt (stK K X i) (K i) (cutV (X i)) from rfl)
        go_cut [5] from 40 to 48 (fun t5 wx => t5 = .pointer (some ⟨xb, 0, none⟩) ∧ NewI w wx s g d mb t (stK K X (i + 1)) l ∧ Blk wx xb (wrCells (K i) (cutV (X i))) 63)
        case first =>
          go_region_with (go_at_call 31; refine (store_put s g _ (K i) (cutV (X i)) _ (HA.out.fr0 (Fr.refl _ _).drew).st (cutV_ok (HX.out i))).mono ?_; rintro e w4 ⟨rfl, p4, f4⟩)
          all_goals (
            go_wp2_with fail
            go_meet
            have hng : wr.heap.size ≠ g := by have := HN.out.st.a.lt; omega
            rw [HS.out, hxb]
            exact ⟨rfl, (HA.out.fr0 (Fr.refl _ _).drew).put p4 f4, (HW.out.fr (Fr.refl (fun _ => False) _).drew id).fr f4 hng⟩)
        case rest =>
          obtain ⟨rfl, hI2, hB2⟩ := hcut
          clear hxb
          have c2' := hI2.tb.cell 2
          have k0 : wc.cell? ⟨xb, 0, none⟩ = some (.int .i64 (K i).1) := by rw [hB2.cell, wr_get0]
          have k1 : wc.cell? ⟨xb, 1, none⟩ = some (.int .i64 (K i).2) := by rw [hB2.cell, wr_get1]
          have kr := wr_rowAt hB2
          have HI2 := Lib.hid hI2
          clear hI2 hB2
          go_upto_region 10 with fail
          go_region_with (go_at_call 32; refine (ref_put d mb l (K i) (cutV (X i)) _ (HI2.out.fr0 (Fr.refl _ _).drew).rf).mono ?_; rintro e w5 ⟨rfl, f5, l5, r5⟩; have HI5 := Lib.hid ((HI2.out.fr0 (Fr.refl _ _).drew).ref r5 f5); clear f5 r5)
          all_goals (
            go_wp2_with fail
            exact ⟨⟨i + 1, l5, by omega, by go_num, HI5.out⟩, by simp [intOf]; omega⟩))
    · have hlt' : ¬ (i : Int) < n := by omega
      obtain rfl : i = n := by omega
      have HLK := Lib.hid (keep_look t s g d _ _ _ _ HN.out.st HN.out.tb)
      clear hlt
      go_wp2_with (go_at_call 33; (with_reducible refine HLK.out.mono ?_); rintro e w4 ⟨rfl, V, tb, hs, hg, f4, l1, l2, l3⟩; obtain ⟨q0, q1, q2, hB⟩ := tb.c; have c1 : w4.cell? ⟨t, 1, none⟩ = some (.pointer (some ⟨V.v, 0, none⟩)) := hB.cell 1; have HB := Lib.hid hB; have HTB := Lib.hid tb; have HF4 := Lib.hid f4; have HL2 := Lib.hid (And.intro hs (And.intro hg (And.intro l1 (And.intro l2 l3)))); clear hB tb f4 hs hg l1 l2 l3)
      go_ret
      obtain ⟨rfl, rfl, l1, l2, l3⟩ := HL2.out
      have z1 := HN.out.fr.size
      have l4 := HN.out.lo
      have l5 := HN.out.ne
      refine ⟨_, V, rfl, HTB.out, HN.out.fr.step HF4.out (fun k hk e => by have e' : k = t := e; omega), fun k hk => ?_⟩
      rcases hk with hk | hk | hk | hk | hk <;> omega
end Go.Proofs.Ytmgijchcfjmphaa
