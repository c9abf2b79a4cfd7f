import Derived.Test.YtoifefcbegdjdaaSli
import Derived.Lib.SliceRun
namespace Go.Proofs.Ytoifefcbegdjdaa
open Go.RowKit

theorem Rd.nil_of {w : World} {v : Value} {l : List Int} (h : Rd w v (ints l)) : (v = .slice none 0 0 ∧ l = []) ∨ ∃ b off cap, v = .slice (some ⟨b, off, none⟩) l.length cap ∧ l.length ≤ cap ∧ cap ≤ maxLen := by
  rcases h with ⟨rfl, hn⟩ | ⟨b, off, cap, rfl, h1, h2, _⟩
  · left; refine ⟨rfl, ?_⟩
    cases l with
    | nil => rfl
    | cons a l => simp [ints] at hn
  · right; exact ⟨b, off, cap, by rw [ints_len], by rw [ints_len] at h1; exact h1, h2⟩

set_option maxRecDepth 100000 in
theorem sl_clone (v : Value) (l : List Int) (w : World) (h : Rd w v (ints l)) (hl : l.length ≤ 1000000) :
    Calls Try.prog 67 #[v] w fun e w' => ∃ v', e = .returned v' ∧ Own w' 3 1 l.length v' (ints l) ∧ Fr (fun _ => False) w w' ∧ ∀ k, Of v' k → w.heap.size ≤ k := by
  obtain ⟨i0, hif, hz0, hz1, hz2⟩ := info_parts info_int1
  rcases h.nil_of with ⟨rfl, rfl⟩ | ⟨b, off, cap, rfl, h1, h2⟩
  · clear h
    have hn := Lib.run_eql_slice_nil (P := Try.prog) w 24 3 none 0 0 0 0 Try.underlying24
    go_enter Try.func67, Try.ntmps67
    go_wp2_with fail
    go_ret
    exact ⟨_, rfl, Own.nil _ _ _, Fr.refl _ _, fun k hk => by simp [Of, Value.ownBlock] at hk⟩
  · have hn := Lib.run_eql_slice_nil (P := Try.prog) w 24 3 (some ⟨b, off, none⟩) l.length cap 0 0 Try.underlying24
    have R1 := h.fr ((Fr.refl (fun _ => False) w).alloc (.cells #[] 3)) (fun _ _ => id)
    have O1 : Own (w.alloc (.cells #[] 3)) 3 1 0 (.slice (some ⟨w.heap.size, 0, none⟩) 0 0) [] := Own.lit (w := w) #[] 3 1 0 (by unfold maxLen; omega) rfl
    clear h
    go_enter Try.func67, Try.ntmps67
    go_wp2_with (at_builtin; refine wpList_append_rd rfl _ _ 24 rfl 3 i0 (.int .i64 0) 8 Try.underlying24 hif hz0 hz1 hz2 rfl (by decide) w.heap.size 0 0 [] rfl O1 _ (ints l) rfl R1 (ints_one l) (by rw [ints_len]; omega) ?_; intro g' cap' w' O2 F2 hg2; have HO := Lib.hid O2; have HF := Lib.hid F2; have HG := Lib.hid hg2; clear O2 F2 hg2)
    go_ret
    refine ⟨_, rfl, ?_, ?_, fun k hk => ?_⟩
    · have o := HO.out
      rw [ints_len, Nat.zero_add, List.nil_append] at o
      first | exact o | (rw [ints_len]; exact o)
    · exact ((Fr.refl (fun _ => False) w).alloc _).step HF.out (fun k hk e => absurd e (Nat.ne_of_lt hk))
    · have hk' : g' = k := by simpa [Of, Value.ownBlock] using hk
      have h := HG.out
      rw [World.size_alloc] at h
      omega

theorem Blk.setCells {b : Nat} {t : TypeId} (vs : List Value) : ∀ (w : World) (c : Array Value) (o : Nat), Blk w b c t → ∃ c', Blk (w.setCells b o vs) b c' t ∧ c'.size = c.size ∧ ∀ j, j < c.size → c'[j]? = if o ≤ j ∧ j < o + vs.length then vs[j - o]? else c[j]? := by
  induction vs with
  | nil => intro w c o h; exact ⟨c, h, rfl, fun j _ => by rw [if_neg (by simp only [List.length_nil]; omega)]⟩
  | cons v vs ih =>
    intro w c o h
    obtain ⟨c', h1, h2, h3⟩ := ih _ _ (o + 1) (h.set o v)
    refine ⟨c', h1, by rw [h2]; simp, fun j hj => ?_⟩
    rw [h3 j (by simpa using hj), Array.getElem?_setIfInBounds]
    by_cases e : j = o
    · subst e
      rw [if_neg (by omega), if_pos rfl, if_pos hj, if_pos (by simp)]
      simp
    · by_cases e2 : o + 1 ≤ j ∧ j < o + 1 + vs.length
      · rw [if_pos e2, if_pos (by simp; omega), show j - o = (j - (o + 1)) + 1 by omega]
        simp
      · rw [if_neg e2, if_neg (fun h => e h.symm), if_neg (by simp; omega)]
theorem setCells_fr (w : World) (b : Nat) (vs : List Value) : ∀ o, Fr (fun k => k = b) w (w.setCells b o vs) := by
  induction vs generalizing w with
  | nil => intro o; exact Fr.refl _ _
  | cons v vs ih => intro o; exact (Fr.set1 w b o v).trans (ih _ _)

theorem Own.blk {w : World} {e : TypeId} {n g cap : Nat} {xs : List Value} (h : Own w e 1 n (.slice (some ⟨g, 0, none⟩) n cap) xs) : ∃ c, Blk w g c e ∧ c.size = cap ∧ n ≤ cap ∧ cap ≤ maxLen ∧ ∀ j, j < n → c[j]? = xs[j]? := by
  rcases h.2 with ⟨h, _⟩ | ⟨g', cap', cur, e1, _, h2, h3, h4, h5, h6⟩
  · simp at h
  · simp only [Value.slice.injEq, Option.some.injEq, Addr.mk.injEq] at e1
    obtain ⟨⟨rfl, _⟩, _, rfl⟩ := e1
    refine ⟨cur, h2, by omega, h3, h4, fun j hj => ?_⟩
    rw [← h6, List.getElem?_take, if_pos (by omega)]
    simp
theorem Own.of_blk {w : World} {e : TypeId} {n g cap : Nat} {xs : List Value} {c : Array Value} (h : Blk w g c e) (h1 : c.size = cap) (h2 : n ≤ cap) (h3 : cap ≤ maxLen) (hl : xs.length = n) (h4 : ∀ j, j < n → c[j]? = xs[j]?) : Own w e 1 n (.slice (some ⟨g, 0, none⟩) n cap) xs := by
  refine ⟨by omega, .inr ⟨g, cap, c, rfl, Nat.zero_le _, h, h2, h3, by omega, ?_⟩⟩
  apply List.ext_getElem?
  intro j
  rw [List.getElem?_take]
  by_cases hj : j < n
  · rw [if_pos (by omega), Array.getElem?_toList, h4 j hj]
  · rw [if_neg (by omega), List.getElem?_eq_none (by omega)]

theorem zero_i64 (w : World) : (zeroValue 3).run Try.prog w = .ok (.int .i64 0) w := by kernel_rfl

set_option maxRecDepth 100000 in
theorem sl_delete (g m cap i : Nat) (l : List Int) (w : World) (h : Own w 3 1 (m + 1) (.slice (some ⟨g, 0, none⟩) (m + 1) cap) (ints l)) (hl : m + 1 ≤ 1000000) (hi : i ≤ m) :
    Calls Try.prog 66 #[.slice (some ⟨g, 0, none⟩) (m + 1) cap, .int .i64 i, .int .i64 ((i : Int) + 1)] w fun e w' =>
      e = .returned (.slice (some ⟨g, 0, none⟩) m cap) ∧ Own w' 3 1 m (.slice (some ⟨g, 0, none⟩) m cap) (ints (l.eraseIdx i)) ∧ Fr (fun k => k = g) w w' := by
  obtain ⟨i0, hif, hz0, hz1, hz2⟩ := info_parts info_int1
  obtain ⟨c, hb, hc1, hc2, hc3, hc4⟩ := h.blk
  have hln : l.length = m + 1 := by have := h.length; rw [ints_len] at this; omega
  have b0 : (0 : Int) ≤ i := by omega
  have b1 : (i : Int) < (m : Int) + 1 := by omega
  have b1' : (i : Int) ≤ m := by omega
  have b2 : (i : Int) + 1 ≤ (m : Int) + 1 := by omega
  have b3 : (m : Int) + 1 ≤ cap := by omega
  have b3' : (m : Int) ≤ cap := by omega
  have b4 : (i : Int) ≤ cap := by omega
  have b5 : (i : Int) + 1 ≤ cap := by omega
  have b6 : (0 : Int) ≤ (i : Int) + 1 := by omega
  have b7 : (m : Int) ≤ 1000000 := by omega
  have b9 : (0 : Int) ≤ m := by omega
  unfold maxLen at hc3
  have b8 : (cap : Int) ≤ 9223372036854775807 := by omega
  have hne : ((i : Int) == (i : Int) + 1) = false := beq_eq_false_iff_ne.2 (by omega)
  have hap : ∀ k m, (⟨g, k, none⟩ : Addr).add m = ⟨g, k + m, none⟩ := fun k m => by unfold Addr.add; split <;> simp_all
  have hnews : Hid (∀ j u, (ints (l.drop (i + 1)))[j]? = some u → w.cell? ⟨g, i + 1 + j, none⟩ = some u) := by
    intro j u hj
    have hjl : j < (ints (l.drop (i + 1))).length := (List.getElem?_eq_some_iff.1 hj).1
    rw [ints_len, List.length_drop] at hjl
    rw [hb.cell, hc4 _ (by omega), ← hj, ints_get, ints_get, List.getElem?_drop]
  have hlen2 : (ints (l.drop (i + 1))).length = m + 1 - (i + 1) := by rw [ints_len, List.length_drop, hln]
  have HL2 := Lib.hid hlen2
  have HB := Lib.hid hb
  have HC := Lib.hid hc4
  have HSP : Hid (∀ j, j < (ints (l.drop (i + 1))).length → (w.cell? ⟨g, 0 + i * 1 + j, none⟩).isSome = true ∧ w.frozen? ⟨g, 0 + i * 1 + j, none⟩ = false) := by
    intro j hj
    rw [hlen2] at hj
    refine ⟨?_, hb.frozen _⟩
    rw [hb.cell, hc4 _ (by omega), ints_get, List.getElem?_eq_getElem (by omega)]
    rfl
  clear h hb hc4 hlen2
  by_cases hcap : cap = i + 1
  · obtain rfl : i = m := by omega
    have hcapT : (cap = i + 1) = True := eq_true hcap
    have HCAP := Lib.hid hcap
    clear hcap
    go_enter Try.func66, Try.ntmps66
    go_wp2_with fail
    go_region_held3 (fun _ => True) (trivial) ((refine step_append_room (by rfl) (.tmp 22) (.tmp 25) 24 (by rfl) 3 i0 1 Try.underlying24 hif hz1 g 0 i cap (by simp [Act.eval]) ⟨g, 0, none⟩ 0 (cap - (i + 1)) (ints (l.drop (i + 1))) (by simp [Act.eval]) (by rw [HL2.out]; omega) (fun j u hj => by have := (List.getElem?_eq_some_iff.1 hj).1; rw [HL2.out] at this; omega) (ints_one _) (by omega) HSP.out ?_))
    obtain ⟨c2, d1, d2, d3⟩ := HB.out.drew.setCells (ints (l.drop (i + 1))) w.drew c (0 + i * 1)
    have F2 := setCells_fr w.drew g (ints (l.drop (i + 1))) (0 + i * 1)
    generalize (w.drew.setCells g (0 + i * 1) (ints (l.drop (i + 1)))) = W2 at *
    have hclr := fun ty => Lib.run_clear_slice (P := Try.prog) W2 24 3 ty (.int .i64 0) Try.underlying24 zero_i64 rfl rfl g i 1 (cap - i) (by omega) (fun j hj => by rw [d1.cell, Array.getElem?_eq_getElem (by omega)]; rfl) (fun j hj => d1.frozen _)
    have HD1 := Lib.hid d1
    have HF2 := Lib.hid F2
    have HD3 := Lib.hid d3
    clear d1 d3 F2
    go_wp2_with fail
    go_ret
    obtain ⟨c3, q1, q2, q3⟩ := HD1.out.setCells [.int .i64 0] W2 c2 i
    refine ⟨rfl, Own.of_blk q1 (by omega) (by omega) (by unfold maxLen; omega) (by rw [ints_len, List.length_eraseIdx]; split <;> omega) (fun j hj => ?_), (Fr.refl (fun k => k = g) w).drew.trans (HF2.out.trans (setCells_fr _ _ _ _))⟩
    rw [q3 j (by omega), if_neg (by omega), HD3.out j (by omega), ints_get (l.eraseIdx i) j, List.getElem?_eraseIdx]
    by_cases hji : j < i
    · rw [if_neg (by omega), if_pos hji, HC.out j (by omega), ints_get]
    · rw [if_pos (by rw [HL2.out]; omega), if_neg hji, ints_get, List.getElem?_drop]
      exact congrArg (fun q => (l[q]?).map (Value.int .i64)) (by omega)
  · have hcap2 : ¬ cap = i + 1 := hcap
    have hcap3 : ¬ (cap : Int) = (i : Int) + 1 := by omega
    go_enter Try.func66, Try.ntmps66
    go_wp2_with fail
    go_region_held3 (fun _ => True) (trivial) ((refine step_append_room (by rfl) (.tmp 22) (.tmp 25) 24 (by rfl) 3 i0 1 Try.underlying24 hif hz1 g 0 i cap (by simp [Act.eval]) ⟨g, i + 1, none⟩ (m + 1 - (i + 1)) (cap - (i + 1)) (ints (l.drop (i + 1))) (by simp [Act.eval]) (by rw [HL2.out]; omega) (fun j u hj => by rw [hap]; exact hnews.out j u hj) (ints_one _) (by omega) HSP.out ?_))
    have e1 : i + (m + 1 - (i + 1)) = m := by omega
    rw [e1]
    obtain ⟨c2, d1, d2, d3⟩ := HB.out.drew.setCells (ints (l.drop (i + 1))) w.drew c (0 + i * 1)
    have F2 := setCells_fr w.drew g (ints (l.drop (i + 1))) (0 + i * 1)
    generalize (w.drew.setCells g (0 + i * 1) (ints (l.drop (i + 1)))) = W2 at *
    have hclr := fun ty => Lib.run_clear_slice (P := Try.prog) W2 24 3 ty (.int .i64 0) Try.underlying24 zero_i64 rfl rfl g m 1 (cap - m) (by omega) (fun j hj => by rw [d1.cell, Array.getElem?_eq_getElem (by omega)]; rfl) (fun j hj => d1.frozen _)
    have HD1 := Lib.hid d1
    have HF2 := Lib.hid F2
    have HD3 := Lib.hid d3
    clear e1 d1 d3 F2
    go_wp2_with fail
    go_ret
    obtain ⟨c3, q1, q2, q3⟩ := HD1.out.setCells [.int .i64 0] W2 c2 m
    refine ⟨rfl, Own.of_blk q1 (by omega) (by omega) (by unfold maxLen; omega) (by rw [ints_len, List.length_eraseIdx]; split <;> omega) (fun j hj => ?_), (Fr.refl (fun k => k = g) w).drew.trans (HF2.out.trans (setCells_fr _ _ _ _))⟩
    rw [q3 j (by omega), if_neg (by omega), HD3.out j (by omega), ints_get (l.eraseIdx i) j, List.getElem?_eraseIdx]
    by_cases hji : j < i
    · rw [if_neg (by omega), if_pos hji, HC.out j (by omega), ints_get]
    · rw [if_pos (by rw [HL2.out]; omega), if_neg hji, ints_get, List.getElem?_drop]
      exact congrArg (fun q => (l[q]?).map (Value.int .i64)) (by omega)
end Go.Proofs.Ytoifefcbegdjdaa
