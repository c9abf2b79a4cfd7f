import Derived.Test.YtoifefcbegdjdaaTlbC
import Derived.Test.YtoifefcbegdjdaaInts
namespace Go.Proofs.Ytoifefcbegdjdaa
open Go.RowKit

structure TO (w0 w : World) (x n : Nat) (E : Nat → List Ent) (F : Nat → Prop) : Prop where
  t : Tlb w x n E F
  f : Fr (fun _ => False) w0 w
  o : ∀ k, F k → w0.heap.size ≤ k
section
variable {w0 w : World} {x n : Nat} {E : Nat → List Ent} {F : Nat → Prop} (h : TO w0 w x n E F)
include h
theorem TO.fr {w' : World} (f : Fr (fun _ => False) w w') : TO w0 w' x n E F := ⟨h.t.fr f (fun _ _ => id), h.f.trans f, h.o⟩
theorem TO.step {S : Nat → Prop} {w' : World} (f : Fr S w w') (h1 : ∀ k, S k → ¬ F k) (h2 : ∀ k, S k → w0.heap.size ≤ k) : TO w0 w' x n E F := ⟨h.t.fr f (fun k hk hs => h1 k hs hk), h.f.step f (fun k hk hs => by have := h2 k hs; omega), h.o⟩
theorem TO.congr {E' : Nat → List Ent} (e : ∀ i, i < n → E i = E' i) : TO w0 w x n E' F := ⟨h.t.congr e, h.f, h.o⟩
theorem TO.fill {i : Nat} (hi : i < n) (m : Ent) : Calls Try.prog 38 #[.pointer (some ⟨x, 0, none⟩), .int .i64 i, m.v] w fun e w' => e = .returned (.tuple #[]) ∧ ∃ F', TO w0 w' x n (upd E i (fillL (E i) m)) F' ∧ Fr F w w' ∧ ∀ k, F' k → F k ∨ w.heap.size ≤ k :=
  (tlb_fill x n E F i w h.t hi m).mono fun _ _ ⟨he, f, F', t, hF⟩ => ⟨he, F', ⟨t, h.f.step f (fun k hk hs => by have := h.o k hs; omega), fun k hk => (hF k hk).elim (h.o k) (fun hk => by have := h.f.size; omega)⟩, f, hF⟩
end

/-- the entry of a place -/
def fe (v : Int) : Ent := ⟨1, v, 20 + v⟩
/-- the places kept, but one's -/
def keepO (own : List Int) (v : Int) : List Int := own.filter (fun y => !decide (y = v))
def nextO (own : List Int) (v : Int) : List Int := (keepO own v ++ [v]).drop ((keepO own v).length + 1 - 4)
theorem fillL_fe (own : List Int) (v : Int) : fillL (own.map fe) (fe v) = (nextO own v).map fe := by
  have e : others (own.map fe) (fe v) = (keepO own v).map fe := by
    unfold others keepO
    rw [List.filter_map]
    congr 1
    apply List.filter_congr
    intro y _
    simp [fe]
  unfold fillL nextO
  rw [e]
  simp
theorem keepO_le (own : List Int) (v : Int) : (keepO own v).length ≤ own.length := List.length_filter_le _ _
theorem nextO_len (own : List Int) (v : Int) : (nextO own v).length ≤ 4 := by
  unfold nextO
  rw [List.length_drop, List.length_append]
  simp only [List.length_cons, List.length_nil]
  omega
theorem nextO_bd {own : List Int} {v : Int} {P : Int → Prop} (h : ∀ y ∈ own, P y) (hv : P v) : ∀ y ∈ nextO own v, P y := fun y hy => by
  have h1 := List.mem_of_mem_drop hy
  rcases List.mem_append.1 h1 with h2 | h2
  · exact h y (List.mem_filter.1 h2).1
  · simp at h2; subst h2; exact hv
theorem keepO_succ (own : List Int) (v : Int) (j : Nat) (hj : j < own.length) : keepO (own.take (j + 1)) v = keepO (own.take j) v ++ if own[j] = v then [] else [own[j]] := by
  unfold keepO
  rw [List.take_succ_eq_append_getElem hj, List.filter_append]
  congr 1
  by_cases e : own[j] = v <;> simp [e]

def EO (a b : Nat) (own : List Int) (j : Nat) : List Ent := if j = a then own.map fe else if j = b then [⟨7, 7, 7⟩] else []

theorem find_own (own : List Int) (v : Int) (h : v ∈ own) : ∃ q : Nat, (own.map fe)[q]? = some (fe v) ∧ ∀ j, j < q → ∀ z, (own.map fe)[j]? = some z → ¬ (z.p = 1 ∧ z.at_ = v) := by
  induction own with
  | nil => simp at h
  | cons y l ih =>
    by_cases e : y = v
    · subst e; exact ⟨0, rfl, fun j hj => absurd hj (by omega)⟩
    · obtain ⟨q, h1, h2⟩ := ih (by simpa [Ne.symm e] using h)
      refine ⟨q + 1, h1, fun j hj z hz => ?_⟩
      match j with
      | 0 => simp at hz; subst hz; exact fun h => e h.2
      | j + 1 => exact h2 j (by omega) z hz

theorem Rd.drop {w : World} {b off n cap : Nat} {xs : List Value} (h : Rd w (.slice (some ⟨b, off, none⟩) n cap) xs) (d : Nat) (hd : d ≤ xs.length) : Rd w (.slice (some ⟨b, off + d, none⟩) (n - d) (cap - d)) (xs.drop d) := by
  rcases h with ⟨h, _⟩ | ⟨b', o, cap', h, h1, h2, h3, h4⟩
  · simp at h
  · simp only [Value.slice.injEq, Option.some.injEq, Addr.mk.injEq] at h
    obtain ⟨⟨rfl, rfl, _⟩, rfl, rfl⟩ := h
    refine .inr ⟨b, off + d, cap - d, by rw [List.length_drop], by rw [List.length_drop]; omega, by omega, h3, fun j u hj => ?_⟩
    rw [List.getElem?_drop] at hj
    rw [Nat.add_assoc]
    exact h4 _ _ hj

/-- i places were filled in -/
def OldRel (w0 : World) (x k a b len : Nat) (t11 t12 : Value) (w : World) : Prop :=
  ∃ (i : Nat) (own : List Int) (F : Nat → Prop), i ≤ 30 ∧ i ≤ len ∧ t12 = .int .i64 i ∧ Rd w t11 (ints own) ∧ own.length ≤ 4 ∧ TO w0 w x k (EO a b own) F ∧ (∀ q, At t11 q → ¬ F q)

/-- the places kept, the first j looked at -/
def KeepRel (w0 w1 : World) (x k a b : Nat) (own own' : List Int) (v : Int) (F : Nat → Prop) (t14 t67 : Value) (w : World) : Prop :=
  ∃ j : Nat, j ≤ own.length ∧ t67 = .int .i64 j ∧ Own w 3 1 (keepO (own.take j) v).length t14 (ints (keepO (own.take j) v)) ∧ TO w0 w x k (EO a b own') F ∧ Fr (fun _ => False) w1 w ∧ ∀ q, Of t14 q → w1.heap.size ≤ q

theorem eldest_app {w0 W wq w' : World} {x k n : Nat} {E : Nat → List Ent} {F : Nat → Prop} {v' t14 : Value} {l : List Int} {v : Int} {o : Obj} (O2 : Own w' 3 1 (l.length + 1) v' (ints l ++ [.int .i64 v])) (F2 : Fr (Of t14) (wq.alloc o) w') (N2 : ∀ q, Of v' q → Of t14 q ∨ wq.heap.size ≤ q)
    (HT : TO w0 wq x k E F) (HF : Fr (fun _ => False) W wq) (HN : ∀ q, Of t14 q → W.heap.size ≤ q) (S3 : TO w0 W x n E F) :
    ∃ g c, v' = .slice (some ⟨g, 0, none⟩) (l.length + 1) c ∧ (l.length : Int) + 1 ≤ c ∧ (c : Int) ≤ 9223372036854775807 ∧ Hid (Rd w' (.slice (some ⟨g, 0, none⟩) (l.length + 1) c) (ints (l ++ [v])) ∧ TO w0 w' x k E F ∧ W.heap.size ≤ g) := by
  have e : ints l ++ [.int .i64 v] = ints (l ++ [v]) := by simp [ints]
  rw [e] at O2
  rcases O2.cases with ⟨_, h, _⟩ | ⟨g, c, rfl, h1, h2, h3, _⟩
  · omega
  · unfold maxLen at h3
    have hz := HF.size
    have hz2 := S3.f.size
    refine ⟨g, c, rfl, by omega, by omega, O2.rd, HT.step (((Fr.refl _ _).alloc _).trans F2) (fun q hq hF => by have := HN q hq; have := S3.t.lt hF; omega) (fun q hq => by have := HN q hq; omega), ?_⟩
    rcases N2 g rfl with h | h
    · exact HN g h
    · omega

set_option maxHeartbeats 8000000 in
set_option maxRecDepth 100000 in
theorem tlbEldest_walk (n h : Int) (a2 : Option Addr) (len cap : Nat) (V : Nat → Nat → Value) (w : World) (wf : (Lit.int .i64 n).wf = true) (wf2 : (Lit.int .i64 h).wf = true) (s : IsSl [.int .i64] w a2 len cap V) :
    Calls Try.prog 10 #[.int .i64 n, .int .i64 h, .slice a2 len cap] w fun e w' => e = .returned (.bool true) ∧ Below w.heap.size w w' := by
  obtain ⟨i0, hif, hz0, hz1, hz2⟩ := info_parts info_int1
  have hw := fun w => within_any n 2 8 w (wf_i64 wf) (by omega) (by omega) (by omega)
  have hk := wth_bd (n := n) (lo := 2) (hi := 8) (by omega)
  obtain ⟨k, hk'⟩ : ∃ k : Nat, wth n 2 8 = k := ⟨(wth n 2 8).toNat, by omega⟩
  rw [hk'] at hw hk
  have hw2 := fun w => within_any h 0 ((k : Int) - 1) w (wf_i64 wf2) (by omega) (by omega) (by omega)
  have ha := wth_bd (n := h) (lo := 0) (hi := (k : Int) - 1) (by omega)
  obtain ⟨a, ha'⟩ : ∃ a : Nat, wth h 0 ((k : Int) - 1) = a := ⟨(wth h 0 ((k : Int) - 1)).toNat, by omega⟩
  rw [ha'] at hw2 ha
  have hk1 : 2 ≤ k := by omega
  have hk2 : k ≤ 8 := by omega
  have hak : a < k := by omega
  obtain ⟨b, hb⟩ : ∃ b, b = (a + 1) % k := ⟨_, rfl⟩
  have hbk : b < k := by rw [hb]; exact Nat.mod_lt _ (by omega)
  have hab : b ≠ a := by
    rw [hb]
    by_cases e : a + 1 < k
    · rw [Nat.mod_eq_of_lt e]; omega
    · have : a + 1 = k := by omega
      rw [this, Nat.mod_self]; omega
  have hbm : ((a : Int) + 1).tmod (k : Int) = b := by
    rw [hb, show (a : Int) + 1 = ((a + 1 : Nat) : Int) by omega]
    rw [Int.tmod_eq_emod_of_nonneg (by omega)]
    omega
  have hkz : ((k : Int) == 0) = false := beq_eq_false_iff_ne.2 (by omega)
  have HW := Lib.hid hw
  have HW2 := Lib.hid hw2
  obtain ⟨A, hA⟩ := Nums.of s
  have HA := Lib.hid hA
  have HRR := Lib.hid tlbRuns_any
  clear hw hk hk' hw2 ha ha' wf wf2 s hA hb
  have hkI : (k : Int) ≤ 8 := by omega
  have hkI2 : (2 : Int) ≤ k := by omega
  have haI : (a : Int) < k := by omega
  go_enter Try.func10, Try.ntmps10
  go_wp2_with (first
    | (go_at_call 14; (with_reducible refine (HW.out _).mono ?_); rintro e w' ⟨rfl, rfl⟩)
    | (go_at_call 14; (with_reducible refine (HW2.out _).mono ?_); rintro e w' ⟨rfl, rfl⟩))
  refine (tlb_new k (by omega) _).mono ?_
  rintro e w1 ⟨rfl, f1, t1⟩
  have s1 : TO w w1 (w.heap.size + 1) k (fun _ => []) _ := ⟨t1, f1, fun k hk => hk.1⟩
  obtain ⟨x, ex⟩ : ∃ x, x = w.heap.size + 1 := ⟨_, rfl⟩
  rw [← ex] at s1
  rw [← ex]
  have S1 := Lib.hid s1
  clear f1 t1 s1 ex
  go_wp2_with fail
  refine (S1.out.fill hbk ⟨7, 7, 7⟩).mono ?_
  rintro e w2 ⟨rfl, F2, s2, _, _⟩
  have S2 := Lib.hid (s2.congr (E' := EO a b []) (fun j hj => by
    unfold EO upd
    by_cases e1 : j = b
    · subst e1; rw [if_pos rfl, if_neg hab, if_pos rfl]; rfl
    · rw [if_neg e1, if_neg e1]; split <;> rfl))
  clear s2 S1
  go_wp2_with fail
  go_loopw [11, 12] (fun t11 t12 wr => OldRel w x k a b len t11 t12 wr) (fun _ t12 _ => (30 - intOf t12).toNat)
  case atStart => exact ⟨0, [], F2, by omega, by omega, rfl, .inl ⟨rfl, rfl⟩, by simp, S2.out, fun q ⟨_, _, _, h⟩ => by simp at h⟩
  case round =>
    obtain ⟨i, own, F, hi, hil, rfl, hR, hol, hT, hd⟩ := hrel
    have HR := Lib.hid hR
    have HT := Lib.hid hT
    have HD := Lib.hid hd
    clear S2
    obtain ⟨ao, co, rfl, _, _⟩ := hR.form
    rw [ints_len] at *
    by_cases hr : i < len ∧ i < 30
    · obtain ⟨hr1, hr2⟩ := hr
      have hr1' : (i : Int) < len := by omega
      have hr2' : (i : Int) < 30 := by omega
      rcases HA.out.at hT.f with h | ⟨bb, off, rfl, hbw, hcl⟩
      · omega
      obtain ⟨c0, hbd⟩ := hcl i hr1
      have hwb := wth_bd (n := A i) (lo := 0) (hi := 9) (by omega)
      have hwi := fun w => within_any (A i) 0 9 w hbd (by omega) (by omega) (by omega)
      obtain ⟨v, hv⟩ : ∃ v, v = wth (A i) 0 9 := ⟨_, rfl⟩
      rw [← hv] at hwb hwi
      obtain ⟨hv1, hv2⟩ := hwb
      have HWI := Lib.hid hwi
      have FL := hT.fill hak (fe v)
      have e0 : EO a b own a = own.map fe := by unfold EO; rw [if_pos rfl]
      rw [e0, fillL_fe] at FL
      have FL := Lib.hid FL
      clear hR hT hd hcl hbd hv hwi e0
      go_wp2_with (go_at_call 14; (with_reducible refine (HWI.out _).mono ?_); rintro e w' ⟨rfl, rfl⟩)
      refine FL.out.mono ?_
      rintro e w3 ⟨rfl, F3, s3, f3, hF3⟩
      have s3' := s3.congr (E' := EO a b (nextO own v)) (fun j hj => by
        simp only [EO, upd]
        by_cases e1 : j = a
        · rw [if_pos e1, if_pos e1]
        · rw [if_neg e1, if_neg e1, if_neg e1])
      have r3 := HR.out.fr f3 (fun q hq h => HD.out q hq h)
      have S3 := Lib.hid s3'
      have R3 := Lib.hid r3
      clear s3 s3' f3 hF3 r3 FL HT HR HD c0
      have hol' : (own.length : Int) ≤ 4 := by omega
      go_wp2_with fail
      go_loopw [14, 67] (fun t14 t67 wq => KeepRel w w3 x k a b own (nextO own v) v F3 t14 t67 wq) (fun _ t67 _ => (own.length - intOf t67).toNat)
      case atStart => exact ⟨0, by omega, rfl, Own.nil _ _ _, S3.out, Fr.refl _ _, fun q hq => by simp [Of, Value.ownBlock] at hq⟩
      case round =>
        obtain ⟨j, hj, rfl, hO, hT, hF, hN⟩ := hrel
        have HO := Lib.hid hO
        have HT := Lib.hid hT
        have HF := Lib.hid hF
        have HN := Lib.hid hN
        by_cases hjl : j < own.length
        · have hjl' : (j : Int) < own.length := by omega
          obtain ⟨br, or_, cr, er, _, cj⟩ := (R3.out.fr hF (fun _ _ => id)).int hjl
          simp only [Value.slice.injEq] at er
          obtain ⟨rfl, _, rfl⟩ := er
          have hks := keepO_succ own v j hjl
          have hkl := keepO_le (own.take j) v
          have hkl2 : (own.take j).length ≤ 4 := by rw [List.length_take]; omega
          by_cases hne : own[j] = v
          · rw [if_pos hne, List.append_nil] at hks
            have HS := Lib.hid hks
            rw [hne] at cj
            have hz : (v != v) = false := by simp
            clear hO hT hF hN hks hne
            go_wp2_with fail
            refine ⟨⟨j + 1, by omega, by go_num, ?_, HT.out, HF.out, HN.out⟩, by simp [intOf]; omega⟩
            rw [HS.out]; exact HO.out
          · rw [if_neg hne] at hks
            have HS := Lib.hid hks
            have hz : (own[j] != v) = true := bne_iff_ne.2 hne
            have O1 := Lib.hid (hO.fr ((Fr.refl (fun _ => False) _).alloc (.cells #[.int .i64 own[j]] 3)) (fun _ _ => id))
            clear hO hT hF hN hks hne
            go_wp2_with (at_builtin; refine wpList_append1 rfl _ _ 24 rfl 3 i0 (.int .i64 0) 8 Try.underlying24 hif hz0 hz1 hz2 rfl (by decide) _ _ (ints (keepO (own.take j) v)) rfl (.int .i64 own[j]) 3 O1.out _ rfl rfl rfl (by omega) ?_; intro v' w' O2 F2 N2; have HO2 := Lib.hid O2; have HF2 := Lib.hid F2; have HN2 := Lib.hid N2; clear O2 F2 N2)
            refine ⟨⟨j + 1, by omega, by go_num, ?_, HT.out.step ((Fr.refl _ _).alloc _ |>.trans HF2.out) (fun q hq hF => by have := HN.out q hq; have := S3.out.t.lt hF; omega) (fun q hq => by have := HN.out q hq; have := S3.out.f.size; omega), ((HF.out.alloc _).step HF2.out (fun q hk hq => by have := HN.out q hq; omega)), fun q hq => ?_⟩, by simp [intOf]; omega⟩
            · rw [HS.out]
              have o := HO2.out
              rw [List.length_append]
              simpa [ints] using o
            · rcases HN2.out q hq with h | h
              · exact HN.out q h
              · have := HF.out.size; omega
        · have hjl' : ¬ (j : Int) < own.length := by omega
          obtain rfl : j = own.length := by omega
          have O1 := hO.fr ((Fr.refl (fun _ => False) _).alloc (.cells #[.int .i64 v] 3)) (fun _ _ => id)
          rw [List.take_length] at O1
          have O1 := Lib.hid O1
          have hkl := keepO_le own v
          clear hO hT hF hN
          rcases Nat.lt_or_ge 4 ((keepO own v).length + 1) with hc | hc
          have hB : ((keepO own v).length : Int) + 1 - 4 = 1 := by omega
          have hB3 : (1 : Int) ≤ ((keepO own v).length : Int) + 1 := by omega
          have HC := Lib.hid hc
          clear hc hkl
          go_wp2_with (at_builtin; refine wpList_append1 rfl _ _ 24 rfl 3 i0 (.int .i64 0) 8 Try.underlying24 hif hz0 hz1 hz2 rfl (by decide) _ _ (ints (keepO own v)) rfl (.int .i64 v) 3 O1.out _ rfl rfl rfl (by omega) ?_; intro v' w' O2 F2 N2; obtain ⟨g4, c4, rfl, q1, q2, HQ⟩ : ∃ g c, v' = .slice (some ⟨g, 0, none⟩) ((keepO own v).length + 1) c ∧ ((keepO own v).length : Int) + 1 ≤ c ∧ (c : Int) ≤ 9223372036854775807 ∧ Hid (Rd w' (.slice (some ⟨g, 0, none⟩) ((keepO own v).length + 1) c) (ints (keepO own v ++ [v])) ∧ TO w w' x k (EO a b (nextO own v)) F3 ∧ w3.heap.size ≤ g) := eldest_app (W := w3) O2 F2 N2 HT.out HF.out HN.out S3.out; clear O2 F2 N2)
          obtain ⟨R4', T4, G4⟩ := HQ.out
          have R4 := R4'.drop 1 (by rw [ints_len, List.length_append]; simp)
          rw [Nat.zero_add] at R4
          have e4 : (ints (keepO own v ++ [v])).drop 1 = ints (nextO own v) := by unfold nextO ints; rw [List.map_drop]; congr 1; have := HC.out; omega
          rw [e4] at R4
          obtain ⟨nl, hnl⟩ : ∃ nl, nl = (keepO own v).length := ⟨_, rfl⟩
          have hnl2 : nl = (nextO own v).length := by unfold nextO; rw [List.length_drop, List.length_append]; simp only [List.length_cons, List.length_nil]; have := HC.out; omega
          rw [show (keepO own v).length + 1 - 1 = (keepO own v).length by omega, ← hnl] at R4
          rw [← hnl]
          have HR4 := Lib.hid R4
          have HT4 := Lib.hid T4
          have HG4 := Lib.hid G4
          have HNL := Lib.hid hnl2
          clear R4 R4' T4 G4 HQ HC e4 hB hB3 hnl hnl2
          rotate_left 1
          have hA : ((keepO own v).length : Int) + 1 - 4 ≤ 0 := by omega
          have HC := Lib.hid hc
          clear hc hkl
          go_wp2_with (at_builtin; refine wpList_append1 rfl _ _ 24 rfl 3 i0 (.int .i64 0) 8 Try.underlying24 hif hz0 hz1 hz2 rfl (by decide) _ _ (ints (keepO own v)) rfl (.int .i64 v) 3 O1.out _ rfl rfl rfl (by omega) ?_; intro v' w' O2 F2 N2; obtain ⟨g4, c4, rfl, q1, q2, HQ⟩ : ∃ g c, v' = .slice (some ⟨g, 0, none⟩) ((keepO own v).length + 1) c ∧ ((keepO own v).length : Int) + 1 ≤ c ∧ (c : Int) ≤ 9223372036854775807 ∧ Hid (Rd w' (.slice (some ⟨g, 0, none⟩) ((keepO own v).length + 1) c) (ints (keepO own v ++ [v])) ∧ TO w w' x k (EO a b (nextO own v)) F3 ∧ w3.heap.size ≤ g) := eldest_app (W := w3) O2 F2 N2 HT.out HF.out HN.out S3.out; clear O2 F2 N2)
          obtain ⟨R4, T4, G4⟩ := HQ.out
          have e4 : keepO own v ++ [v] = nextO own v := by unfold nextO; have := HC.out; rw [show (keepO own v).length + 1 - 4 = 0 by omega]; rfl
          rw [e4] at R4
          obtain ⟨nl, hnl⟩ : ∃ nl, nl = (keepO own v).length + 1 := ⟨_, rfl⟩
          have hnl2 : nl = (nextO own v).length := by rw [← e4, List.length_append]; exact hnl
          rw [← hnl] at R4
          rw [← hnl]
          have HR4 := Lib.hid R4
          have HT4 := Lib.hid T4
          have HG4 := Lib.hid G4
          have HNL := Lib.hid hnl2
          clear R4 T4 G4 HQ HC e4 hA hnl hnl2
          rotate_left 1
          all_goals (
            have hnl4 : (nl : Int) ≤ 4 := by have := HNL.out; have := nextO_len own v; omega
            have e0 : EO a b (nextO own v) a = (nextO own v).map fe := by unfold EO; rw [if_pos rfl]
            have HE0 := Lib.hid e0
            clear e0
            go_loopw [17] (fun t17 wz => ∃ z : Nat, z ≤ 10 ∧ t17 = .int .i64 z ∧ TO w wz x k (EO a b (nextO own v)) F3 ∧ Fr (fun _ => False) w' wz) (fun t17 _ => (10 - intOf t17).toNat)
            case atStart => exact ⟨0, by omega, rfl, HT4.out, Fr.refl _ _⟩
            case round =>
              obtain ⟨z, hz, rfl, hT5, hF5⟩ := hrel
              have HT5 := Lib.hid hT5
              have HF5 := Lib.hid hF5
              by_cases hz10 : z < 10
              · have hz' : (z : Int) < 10 := by omega
                have RQ := Lib.hid (HR4.out.fr hF5 (fun _ _ => id))
                clear hT5 hF5
                go_wp2_with fail
                go_loop [18, 95] (fun t18 t95 => ∃ q : Nat, q ≤ nl ∧ t95 = .int .i64 q ∧ t18 = .bool (decide ((z : Int) ∈ (nextO own v).take q))) (fun _ t95 => (nl - intOf t95).toNat)
                case atStart => exact ⟨0, by omega, rfl, by simp⟩
                case round =>
                  obtain ⟨q, hq, rfl, rfl⟩ := hrel
                  by_cases hql : q < nl
                  · have hql' : (q : Int) < nl := by omega
                    have hqn : q < (nextO own v).length := by have := HNL.out; omega
                    obtain ⟨br, or_, cr, er, _, cj⟩ := RQ.out.int hqn
                    simp only [Value.slice.injEq, Option.some.injEq, Addr.mk.injEq] at er
                    obtain ⟨⟨rfl, rfl, _⟩, _, rfl⟩ := er
                    try rw [Nat.zero_add] at cj
                    have htk := List.take_succ_eq_append_getElem hqn
                    by_cases h1 : (z : Int) ∈ (nextO own v).take q
                    · rw [decide_eq_true h1]
                      have H1 := Lib.hid (show decide ((z : Int) ∈ (nextO own v).take (q + 1)) = true by rw [htk]; exact decide_eq_true (List.mem_append_left _ h1))
                      clear h1 htk
                      go_wp2_with fail
                      go_round
                      case rel => exact ⟨q + 1, by omega, by go_num, by rw [H1.out]⟩
                      case measure => simp [intOf]; omega
                    · rw [decide_eq_false h1]
                      generalize (nextO own v)[q] = u at cj htk
                      by_cases h2 : (z : Int) = u
                      · have H1 := Lib.hid (show decide ((z : Int) ∈ (nextO own v).take (q + 1)) = true by rw [htk]; exact decide_eq_true (List.mem_append_right _ (by rw [h2]; simp)))
                        have h3 : ((z : Int) == u) = true := beq_iff_eq.2 h2
                        clear h1 htk h2
                        go_wp2_with fail
                        go_round
                        case rel => exact ⟨q + 1, by omega, by go_num, by rw [H1.out]⟩
                        case measure => simp [intOf]; omega
                      · have H1 := Lib.hid (show decide ((z : Int) ∈ (nextO own v).take (q + 1)) = false by rw [htk]; exact decide_eq_false (fun h => (List.mem_append.1 h).elim h1 (fun h => h2 (by simpa using h))))
                        have h3 : ((z : Int) == u) = false := beq_eq_false_iff_ne.2 h2
                        clear h1 htk h2
                        go_wp2_with fail
                        go_round
                        case rel => exact ⟨q + 1, by omega, by go_num, by rw [H1.out]⟩
                        case measure => simp [intOf]; omega
                  · have hql' : ¬ (q : Int) < nl := by omega
                    obtain rfl : q = nl := by omega
                    have etk : (nextO own v).take q = nextO own v := by rw [HNL.out]; exact List.take_length
                    rw [etk]
                    clear etk
                    by_cases hm : (z : Int) ∈ nextO own v
                    · rw [decide_eq_true hm]
                      obtain ⟨q5, k1, k2⟩ := find_own _ _ hm
                      have FY := tlb_find_yes x k (EO a b (nextO own v)) F3 a _ HT5.out.t hak 1 (z : Int) q5 (fe z) (by rw [HE0.out]; exact k1) ⟨rfl, rfl⟩ (by rw [HE0.out]; exact k2)
                      simp only [fe] at FY
                      have FY := Lib.hid FY
                      clear k1 k2 hm
                      go_wp2_with (go_at_call 41; (with_reducible refine FY.out.mono ?_); rintro e w6 ⟨rfl, f6⟩; have HF6 := Lib.hid f6; clear f6)
                      refine ⟨⟨z + 1, by omega, by go_num, HT5.out.fr HF6.out, HF5.out.trans HF6.out⟩, by simp [intOf]; omega⟩
                    · rw [decide_eq_false hm]
                      have FN := Lib.hid (tlb_find_no x k (EO a b (nextO own v)) F3 a _ HT5.out.t hak 1 (z : Int) (by rw [HE0.out]; intro e he h; obtain ⟨u, hu, rfl⟩ := List.mem_map.1 he; exact hm (by have := h.2; simp only [fe] at this; rw [← this]; exact hu)))
                      clear hm
                      go_wp2_with (go_at_call 41; (with_reducible refine FN.out.mono ?_); rintro e w6 ⟨rfl, f6⟩; have HF6 := Lib.hid f6; clear f6)
                      refine ⟨⟨z + 1, by omega, by go_num, HT5.out.fr HF6.out, HF5.out.trans HF6.out⟩, by simp [intOf]; omega⟩
              · have hz' : ¬ (z : Int) < 10 := by omega
                clear hT5 hF5
                go_wp2_with fail
                refine ⟨⟨i + 1, nextO own v, F3, by omega, by omega, by go_num, HR4.out.fr HF5.out (fun _ _ => id), nextO_len own v, HT5.out, fun q ⟨_, _, _, e⟩ hF => ?_⟩, by simp [intOf]; omega⟩
                simp only [Value.slice.injEq, Option.some.injEq, Addr.mk.injEq] at e
                have := S3.out.t.lt hF
                have := HG4.out
                omega)
    · have hend : ¬ ((i : Int) < len ∧ (i : Int) < 30) := by omega
      have eb : EO a b own b = [⟨7, 7, 7⟩] := by unfold EO; rw [if_neg hab, if_pos rfl]
      have ea : (EO a b own a).length = own.length := by unfold EO; rw [if_pos rfl, List.length_map]
      have FY := tlb_find_yes x k (EO a b own) F b wr hT.t hbk 7 7 0 ⟨7, 7, 7⟩ (by rw [eb]; rfl) ⟨rfl, rfl⟩ (fun j hj => absurd hj (by omega))
      have FY := Lib.hid FY
      have LB : Hid (∀ w', Fr (fun _ => False) wr w' → Calls Try.prog 45 #[.pointer (some ⟨x, 0, none⟩), .int .i64 b] w' fun e w2 => ∃ a c, e = .returned (.slice a 1 c) ∧ Fr (fun _ => False) w' w2) := fun w' f =>
        (tlb_list x k (EO a b own) F b w' (hT.fr f).t hbk).mono fun e w2 ⟨v', he, O, f2, _⟩ => by
          obtain ⟨q1, q2, e2, _, _⟩ := O.form
          rw [eb] at e2
          exact ⟨q1, q2, by rw [he, e2]; rfl, f2⟩
      have LA : Hid (∀ w', Fr (fun _ => False) wr w' → Calls Try.prog 45 #[.pointer (some ⟨x, 0, none⟩), .int .i64 a] w' fun e w2 => ∃ a c, e = .returned (.slice a own.length c) ∧ Fr (fun _ => False) w' w2) := fun w' f =>
        (tlb_list x k (EO a b own) F a w' (hT.fr f).t hak).mono fun e w2 ⟨v', he, O, f2, _⟩ => by
          obtain ⟨q1, q2, e2, _, _⟩ := O.form
          rw [ea] at e2
          exact ⟨q1, q2, by rw [he, e2], f2⟩
      have HTF := Lib.hid hT.f
      clear eb ea
      clear hR hT hd
      have hol' : (own.length : Int) ≤ 4 := by omega
      by_cases hr1 : i < len
      · have hr2 : ¬ (i : Int) < 30 := by omega
        have hr1' : (i : Int) < len := by omega
        have hr3 : decide ((i : Int) < 30) = false := decide_eq_false hr2
        clear hr hend
        go_wp2_with (first
          | (go_at_call 41; (with_reducible refine FY.out.mono ?_); rintro e w4 ⟨rfl, f4⟩; have HF4 := Lib.hid f4; clear f4)
          | (go_at_call 45; (with_reducible refine (LB.out _ HF4.out).mono ?_); rintro e w5 ⟨q1, q2, rfl, f5⟩; have HF5 := Lib.hid f5; clear f5)
          | (go_at_call 45; (with_reducible refine (LA.out _ (HF4.out.trans HF5.out)).mono ?_); rintro e w6 ⟨q3, q4, rfl, f6⟩; have HF6 := Lib.hid f6; clear f6)
          | (go_at_call 8; (with_reducible refine (HRR.out _).mono ?_); rintro e w8 ⟨rfl, f8⟩; have HF8 := Lib.hid f8; clear f8))
        go_ret
        exact ⟨rfl, (HTF.out.trans (HF4.out.trans (HF5.out.trans (HF6.out.trans HF8.out)))).below⟩
      · have hr1' : ¬ (i : Int) < len := by omega
        clear hr hend
        go_wp2_with (first
          | (go_at_call 41; (with_reducible refine FY.out.mono ?_); rintro e w4 ⟨rfl, f4⟩; have HF4 := Lib.hid f4; clear f4)
          | (go_at_call 45; (with_reducible refine (LB.out _ HF4.out).mono ?_); rintro e w5 ⟨q1, q2, rfl, f5⟩; have HF5 := Lib.hid f5; clear f5)
          | (go_at_call 45; (with_reducible refine (LA.out _ (HF4.out.trans HF5.out)).mono ?_); rintro e w6 ⟨q3, q4, rfl, f6⟩; have HF6 := Lib.hid f6; clear f6)
          | (go_at_call 8; (with_reducible refine (HRR.out _).mono ?_); rintro e w8 ⟨rfl, f8⟩; have HF8 := Lib.hid f8; clear f8))
        go_ret
        exact ⟨rfl, (HTF.out.trans (HF4.out.trans (HF5.out.trans (HF6.out.trans HF8.out)))).below⟩
end Go.Proofs.Ytoifefcbegdjdaa
