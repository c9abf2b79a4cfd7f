import Derived.Test.YtoifefcbegdjdaaRank
namespace Go.Proofs.Ytoifefcbegdjdaa
open Go.RowKit

theorem Fr.drewN0 (w : World) (q : Nat) : Fr (fun _ => False) w (w.drewN q) := ⟨rfl, rfl, rfl, Nat.le_refl _, fun _ _ _ => rfl⟩

/-- behind a Let -/
theorem HeldB.letgo {w w2 w4 : World} {x g b n i m bb cap q : Nat} {v : Nat → Value} {L : Nat → List Int} {O : Int → Option Int} {F : Nat → Prop} (h : HeldB w x g b n v L O F) (hi : i < n) (r : Int) {l : List (Int × Value)}
    (hl1 : (keysA l).Nodup) (hl2 : ∀ k, getA l k = (O k).map kint) (hq : q < (L i).length)
    (hv : v i = .slice (some ⟨bb, 0, none⟩) (m + 1) cap) (hm : (L i).length = m + 1)
    (O2 : Own w2 3 1 m (.slice (some ⟨bb, 0, none⟩) m cap) (ints ((L i).eraseIdx q))) (F2 : Fr (fun k => k = bb) w w2)
    (M4 : MapB kint w4 b (delA l r)) (F4 : Fr (fun k => k = b) (w2.setCell ⟨g, i, none⟩ (.slice (some ⟨bb, 0, none⟩) m cap)) w4) :
    HeldB w4 x g b n (upd v i (.slice (some ⟨bb, 0, none⟩) m cap)) (upd L i ((L i).eraseIdx q)) (fun k => if k = r then none else O k) F ∧ Fr F w w4 := by
  obtain ⟨l0, m0, _⟩ := h.m
  obtain ⟨c, hc, hc2⟩ := h.a
  have hbg : b ≠ g := m0.ne hc
  have hbx : b ≠ x := m0.ne h.h
  have hgx : g ≠ x := h.a.ne h.h (by decide)
  have hof : Of (v i) bb := by rw [hv]; rfl
  have hog : ∀ j, j < n → ¬ Of (v j) g := fun j hj => (h.l j hj).ne hc (by decide)
  have hox : ∀ j, j < n → ¬ Of (v j) x := fun j hj => (h.l j hj).ne h.h (by decide)
  have hob : ∀ j, j < n → ¬ Of (v j) b := fun j hj => (h.l j hj).ne_map m0
  have hbbg : bb ≠ g := fun e => hog i hi (e ▸ hof)
  have hbbb : bb ≠ b := fun e => hob i hi (e ▸ hof)
  have f3 : Fr (fun k => k = bb ∨ k = g) w (w2.setCell ⟨g, i, none⟩ (.slice (some ⟨bb, 0, none⟩) m cap)) := (F2.mono (T := fun k => k = bb ∨ k = g) (fun _ _ h => .inl h)).setCell (fun _ => .inr rfl) _
  have f4 : Fr (fun k => k = bb ∨ k = g ∨ k = b) w w4 := (f3.mono (fun k _ h => h.elim .inl (fun h => .inr (.inl h)))).step F4 (fun _ _ h => .inr (.inr h))
  have hof' : ∀ k, Of (.slice (some ⟨bb, 0, none⟩) m cap) k → k = bb := fun k hk => by simpa [Of, Value.ownBlock] using hk.symm
  refine ⟨⟨h.h.fr f4 (fun hh => hh.elim (fun e => hox i hi (e ▸ hof)) (fun hh => hh.elim (fun e => hgx e.symm) (fun e => hbx e.symm))), ?_, fun j hj => ?_, fun j j' k hj hj' h1 h2 => ?_, ⟨_, M4, nodup_del hl1 r, fun k => ?_⟩, h.fx, fun j k hj hk => ?_, fun j hj => ?_, fun k hk => Nat.lt_of_lt_of_le (h.fb k hk) f4.size⟩, f4.mono (fun k _ hk => ?_)⟩
  · exact (((h.a.fr F2 (fun e => hbbg e.symm)).set i _).fr F4 (fun e => hbg e.symm))
  · by_cases e : j = i
    · subst e
      rw [upd_self, upd_self]
      have hlen : ((L j).eraseIdx q).length = m := by rw [List.length_eraseIdx, if_pos hq]; omega
      rw [hlen]
      exact (O2.fr (Fr.set1 _ _ _ _) (fun k hk e => hbbg ((hof' k hk).symm.trans e))).fr F4 (fun k hk e => hbbb ((hof' k hk).symm.trans e))
    · rw [upd_ne _ _ e, upd_ne _ _ e]
      exact (h.l j hj).fr f4 (fun k hk => by
        rintro (e2 | e2 | e2)
        · exact e (h.ap j i k hj hi hk (e2 ▸ hof))
        · exact hog j hj (e2 ▸ hk)
        · exact hob j hj (e2 ▸ hk))
  · by_cases e : j = i
    · by_cases e' : j' = i
      · omega
      · subst e
        rw [upd_self] at h1
        rw [upd_ne _ _ e'] at h2
        rw [hof' k h1] at h2
        exact h.ap j j' bb hj hj' hof h2
    · by_cases e' : j' = i
      · subst e'
        rw [upd_self] at h2
        rw [upd_ne _ _ e] at h1
        rw [hof' k h2] at h1
        exact h.ap j j' bb hj hj' h1 hof
      · rw [upd_ne _ _ e] at h1
        rw [upd_ne _ _ e'] at h2
        exact h.ap j j' k hj hj' h1 h2
  · rw [getA_del hl1]
    split
    · rfl
    · exact hl2 k
  · by_cases e : j = i
    · subst e; rw [upd_self] at hk; rw [hof' k hk]; exact h.fl j bb hj hof
    · rw [upd_ne _ _ e] at hk; exact h.fl j k hj hk
  · by_cases e : j = i
    · subst e; rw [upd_self, List.length_eraseIdx]; have := h.sz j hj; split <;> omega
    · rw [upd_ne _ _ e]; exact h.sz j hj
  · rcases hk with rfl | rfl | rfl
    · exact h.fl i k hi hof
    · exact h.fx.2.1
    · exact h.fx.2.2

section
variable (x n : Nat) (L : Nat → List Int) (O : Int → Option Int) (F : Nat → Prop) (i : Nat) (w : World) (H : Held w x n L O F) (hi : i < n)
include H hi

set_option maxRecDepth 100000 in
theorem rank_let (r : Int) (q : Nat) (hq : (L i)[q]? = some r) (hmin : ∀ j, j < q → (L i)[j]? ≠ some r) :
    Calls Try.prog 27 #[.pointer (some ⟨x, 0, none⟩), .int .i64 i, .int .i64 r] w fun e w' => e = .returned (.tuple #[]) ∧ Fr F w w' ∧ Held w' x n (upd L i ((L i).eraseIdx q)) (fun k => if k = r then none else O k) F := by
  obtain ⟨g, b, v, h⟩ := H
  have HO := Lib.hid (rank_of x n L O F g b v i w h hi)
  have hql : q < (L i).length := (List.getElem?_eq_some_iff.1 hq).1
  have own := h.l i hi
  have hsz := h.sz i hi
  have HI := Lib.hid (sl_index_yes (v i) (L i) r w own.rd (by omega) q hq hmin)
  obtain ⟨m, hm⟩ : ∃ m, (L i).length = m + 1 := ⟨(L i).length - 1, by omega⟩
  obtain ⟨bb, cap, hv⟩ : ∃ bb cap, v i = .slice (some ⟨bb, 0, none⟩) (m + 1) cap := by
    rcases own.cases with ⟨_, h1, _⟩ | ⟨bb, cc, e, _⟩
    · omega
    · exact ⟨bb, cc, by rw [e, hm]⟩
  have own2 : Own w 3 1 (m + 1) (.slice (some ⟨bb, 0, none⟩) (m + 1) cap) (ints (L i)) := by have := own; rw [hv, hm] at this; exact this
  have HD := Lib.hid (sl_delete bb m cap q (L i) w own2 (by omega) (by omega))
  obtain ⟨l, ml, ml1, ml2⟩ := h.m
  have c0 := h.a.cell hi
  rw [hv] at c0 HI
  have h1 := h.h.cell 1
  obtain ⟨cg, hcg, _⟩ := h.a
  have hbg : b ≠ g := ml.ne hcg
  have hof : Of (v i) bb := by rw [hv]; rfl
  have hbbg : bb ≠ g := fun e => own.ne hcg (by decide) (e ▸ hof)
  have hbbx : bb ≠ x := fun e => own.ne h.h (by decide) (e ▸ hof)
  have hbbb : bb ≠ b := fun e => own.ne_map ml (e ▸ hof)
  have hgx : g ≠ x := h.a.ne h.h (by decide)
  have q0 : (0 : Int) ≤ q := by omega
  have q1 : (q : Int) ≤ 100000 := by omega
  have fin : Hid (∀ w2 w4, Own w2 3 1 m (.slice (some ⟨bb, 0, none⟩) m cap) (ints ((L i).eraseIdx q)) → Fr (fun k => k = bb) w w2 → MapB kint w4 b (delA l r) → Fr (fun k => k = b) (w2.setCell ⟨g, i, none⟩ (.slice (some ⟨bb, 0, none⟩) m cap)) w4 →
      Fr F w w4 ∧ Held w4 x n (upd L i ((L i).eraseIdx q)) (fun k => if k = r then none else O k) F) := fun w2 w4 a b' c d =>
    let ⟨p1, p2⟩ := h.letgo hi r ml1 ml2 hql hv hm a b' c d
    ⟨p2, _, _, _, p1⟩
  have KEEP := Lib.hid (fun w2 (f : Fr (fun k => k = bb) w w2) => (show w2.cell? ⟨g, i, none⟩ = some (.slice (some ⟨bb, 0, none⟩) (m + 1) cap) ∧ (∀ k, w2.frozen? ⟨g, k, none⟩ = false) ∧ g < w2.heap.size ∧ w2.cell? ⟨x, 1, none⟩ = some (.map (some b)) ∧ MapB kint w2 b l from by
    have a' := h.a.fr f (fun e => hbbg e.symm)
    exact ⟨by rw [a'.cell hi, hv], a'.frozen, a'.lt, (h.h.fr f (fun e => hbbx e.symm)).cell 1, ml.fr f (fun e => hbbb e.symm)⟩))
  have SET := Lib.hid (fun (w2 : World) (u : Value) (M : MapB kint w2 b l) => M.fr (Fr.set1 w2 g i u) hbg)
  clear h own own2 ml ml1 ml2 hcg hbg hof hbbg hbbx hbbb hv hm hql hq hmin hsz hi
  go_enter Try.func27, Try.ntmps27
  go_wp2_with (first
    | (go_at_call 64; (with_reducible refine HO.out.mono ?_); rintro e w' ⟨rfl, rfl⟩)
    | (go_at_call 65; (with_reducible refine HI.out.mono ?_); rintro e w' ⟨rfl, rfl⟩)
    | (go_at_call 54; (with_reducible refine (must_ok _ _ _).mono ?_); rintro e w' ⟨rfl, rfl⟩)
    | (go_at_call 66; (with_reducible refine HD.out.mono ?_); rintro e w2 ⟨rfl, O2, F2⟩; obtain ⟨k0, k1, k2, k3, k4⟩ := KEEP.out _ F2; have HO2 := Lib.hid O2; have HF2 := Lib.hid F2; have HK4 := Lib.hid k4; clear O2 F2 k4)
    | (refine wpList_delete_b rfl _ _ 46 _ rfl (key_int Try.underlying3) Try.underlying46 rfl (SET.out _ _ HK4.out) r rfl ?_; intro w4 M4 F4; have HM4 := Lib.hid M4; have HF4 := Lib.hid F4; clear M4 F4))
  go_end0
  exact ⟨rfl, fin.out _ _ HO2.out HF2.out HM4.out HF4.out⟩

set_option maxRecDepth 100000 in
theorem rank_take_low (r : Int) (hlow : ¬ Above (L i) r) :
    Calls Try.prog 24 #[.pointer (some ⟨x, 0, none⟩), .int .i64 i, .int .i64 r] w fun e w' => e = .panicked [{ v := .iface 30 (.agg #[.int .i64 5, .int .i64 r]), recovered := false }] ∧ Fr (fun _ => False) w w' := by
  obtain ⟨g, b, v, h⟩ := H
  have HO := Lib.hid (rank_of x n L O F g b v i w h hi)
  have c0 := h.a.cell hi
  have h1 := h.h.cell 1
  have own := h.l i hi
  have hsz := h.sz i hi
  obtain ⟨ar, cap, hv, hlc, hcm⟩ := own.form
  obtain ⟨N, hN⟩ : ∃ N, (L i).length = N := ⟨_, rfl⟩
  have hzi : (N : Int) ≤ 100000 := by omega
  rw [hv, hN] at c0
  have hlastc : ∀ y, (L i).getLast? = some y → ∃ M bb, N = M + 1 ∧ ar = some ⟨bb, 0, none⟩ ∧ w.cell? ⟨bb, M, none⟩ = some (.int .i64 y) := by
    intro y hy
    have hpos : 0 < N := by
      rcases Nat.eq_zero_or_pos N with h0 | h0
      · rw [List.eq_nil_of_length_eq_zero (hN.trans h0)] at hy; simp at hy
      · exact h0
    have hlast := List.getLast?_eq_getElem? (l := L i)
    have hlt : N - 1 < (L i).length := by omega
    rw [hN, List.getElem?_eq_getElem hlt] at hlast
    rw [hlast] at hy
    rcases own.cases with ⟨_, h1, _⟩ | ⟨bb, cc, e, _, _, _, hcell, _⟩
    · omega
    · rw [hv] at e
      simp only [Value.slice.injEq] at e
      refine ⟨N - 1, bb, by omega, e.1, ?_⟩
      rw [hcell (N - 1) (by omega), ints_get, List.getElem?_eq_getElem hlt]
      simp only [Option.some.injEq] at hy
      rw [hy]
      rfl
  have hcase : r < 0 ∨ (0 ≤ r ∧ ∃ y, (L i).getLast? = some y ∧ r ≤ y) := by
    by_cases h0 : 0 ≤ r
    · right
      refine ⟨h0, ?_⟩
      apply Classical.byContradiction
      intro hno
      exact hlow ⟨h0, fun y hy => by
        apply Classical.byContradiction
        intro h2
        exact hno ⟨y, hy, by omega⟩⟩
    · left; omega
  rcases hcase with hr | ⟨hr, y, hy, hry⟩
  · have hd : decide (0 ≤ r) = false := decide_eq_false (by omega)
    clear h own hlastc hv hlc hcm hN hlow hi hsz hr
    go_enter Try.func24, Try.ntmps24
    go_wp2_with (go_at_call 64; (with_reducible refine HO.out.mono ?_); rintro e w' ⟨rfl, rfl⟩)
    go_quiet (fail)
    go_wp2_with (go_at_call 54; (with_reducible refine (must_no _ _ _).mono ?_); rintro e w' ⟨rfl, rfl⟩)
    exact ⟨rfl, rfl, Fr.drewN0 _ _⟩
  · obtain ⟨M, bb, rfl, rfl, cy⟩ := hlastc y hy
    have m0 : (0 : Int) ≤ M := by omega
    have m1 : (M : Int) ≤ 99999 := by omega
    have m2 : (M : Int) < (M : Int) + 1 := by omega
    have m3 : IntKind.i64.wrap (M : Int) = M := IntWalk.i64_in _ (by omega)
    have m4 : ((M : Int) + 1 == 0) = false := beq_eq_false_iff_ne.2 (by omega)
    have hd : decide (y < r) = false := decide_eq_false (by omega)
    clear h own hlastc hv hlc hcm hN hlow hi hsz hy hry
    go_enter Try.func24, Try.ntmps24
    go_wp2_with (go_at_call 64; (with_reducible refine HO.out.mono ?_); rintro e w' ⟨rfl, rfl⟩)
    go_quiet (fail)
    go_wp2_with (go_at_call 54; (with_reducible refine (must_no _ _ _).mono ?_); rintro e w' ⟨rfl, rfl⟩)
    exact ⟨rfl, rfl, Fr.drewN0 _ _⟩

set_option maxRecDepth 100000 in
theorem rank_take_had (r y : Int) (ha : Above (L i) r) (ho : O r = some y) :
    Calls Try.prog 24 #[.pointer (some ⟨x, 0, none⟩), .int .i64 i, .int .i64 r] w fun e w' => e = .panicked [{ v := .iface 30 (.agg #[.int .i64 6, .int .i64 r]), recovered := false }] ∧ Fr (fun _ => False) w w' := by
  obtain ⟨g, b, v, h⟩ := H
  have HO := Lib.hid (rank_of x n L O F g b v i w h hi)
  have c0 := h.a.cell hi
  have h1 := h.h.cell 1
  have own := h.l i hi
  have hsz := h.sz i hi
  obtain ⟨ar, cap, hv, hlc, hcm⟩ := own.form
  obtain ⟨N, hN⟩ : ∃ N, (L i).length = N := ⟨_, rfl⟩
  have hzi : (N : Int) ≤ 100000 := by omega
  rw [hv, hN] at c0
  have hlastc : ∀ y, (L i).getLast? = some y → ∃ M bb, N = M + 1 ∧ ar = some ⟨bb, 0, none⟩ ∧ w.cell? ⟨bb, M, none⟩ = some (.int .i64 y) := by
    intro y hy
    have hpos : 0 < N := by
      rcases Nat.eq_zero_or_pos N with h0 | h0
      · rw [List.eq_nil_of_length_eq_zero (hN.trans h0)] at hy; simp at hy
      · exact h0
    have hlast := List.getLast?_eq_getElem? (l := L i)
    have hlt : N - 1 < (L i).length := by omega
    rw [hN, List.getElem?_eq_getElem hlt] at hlast
    rw [hlast] at hy
    rcases own.cases with ⟨_, h1, _⟩ | ⟨bb, cc, e, _, _, _, hcell, _⟩
    · omega
    · rw [hv] at e
      simp only [Value.slice.injEq] at e
      refine ⟨N - 1, bb, by omega, e.1, ?_⟩
      rw [hcell (N - 1) (by omega), ints_get, List.getElem?_eq_getElem hlt]
      simp only [Option.some.injEq] at hy
      rw [hy]
      rfl
  have hl : ∀ q, (Instr.lookup 46 (.map (some b)) (.int .i64 r) true).run Try.prog (w.drewN q) = .ok (.tuple #[.int .i64 y, .bool true]) (w.drewN q) := fun q => by
    have := (h.drewN q).look r
    rw [ho] at this
    exact this
  have hr0 : 0 ≤ r := ha.1
  have hcase : N = 0 ∨ ∃ z, (L i).getLast? = some z := by
    rcases Nat.eq_zero_or_pos N with h0 | h0
    · exact .inl h0
    · right
      cases hz : (L i).getLast? with
      | none => rw [List.getLast?_eq_none_iff] at hz; rw [hz] at hN; simp at hN; omega
      | some z => exact ⟨z, rfl⟩
  rcases hcase with rfl | ⟨z, hz⟩
  · clear h own hlastc hv hlc hcm hN hi hsz ha ho
    go_enter Try.func24, Try.ntmps24
    go_wp2_with (go_at_call 64; (with_reducible refine HO.out.mono ?_); rintro e w' ⟨rfl, rfl⟩)
    go_quiet (fail)
    go_wp2_with (first
      | (go_at_call 54; (with_reducible refine (must_ok _ _ _).mono ?_); rintro e w' ⟨rfl, rfl⟩)
      | (go_at_call 54; (with_reducible refine (must_no _ _ _).mono ?_); rintro e w' ⟨rfl, rfl⟩))
    exact ⟨rfl, rfl, Fr.drewN0 _ _⟩
  · have hzr := ha.2 z hz
    obtain ⟨M, bb, rfl, rfl, cy⟩ := hlastc z hz
    have m0 : (0 : Int) ≤ M := by omega
    have m1 : (M : Int) ≤ 99999 := by omega
    have m2 : (M : Int) < (M : Int) + 1 := by omega
    have m3 : IntKind.i64.wrap (M : Int) = M := IntWalk.i64_in _ (by omega)
    have m4 : ((M : Int) + 1 == 0) = false := beq_eq_false_iff_ne.2 (by omega)
    clear h own hlastc hv hlc hcm hN hi hsz ha ho hz
    go_enter Try.func24, Try.ntmps24
    go_wp2_with (go_at_call 64; (with_reducible refine HO.out.mono ?_); rintro e w' ⟨rfl, rfl⟩)
    go_quiet (fail)
    go_wp2_with (first
      | (go_at_call 54; (with_reducible refine (must_ok _ _ _).mono ?_); rintro e w' ⟨rfl, rfl⟩)
      | (go_at_call 54; (with_reducible refine (must_no _ _ _).mono ?_); rintro e w' ⟨rfl, rfl⟩))
    exact ⟨rfl, rfl, Fr.drewN0 _ _⟩

theorem rank_let_bad (r : Int) (hr : r ∉ L i) :
    Calls Try.prog 27 #[.pointer (some ⟨x, 0, none⟩), .int .i64 i, .int .i64 r] w fun e w' => e = .panicked [{ v := .iface 30 (.agg #[.int .i64 6, .int .i64 r]), recovered := false }] ∧ Fr (fun _ => False) w w' := by
  obtain ⟨g, b, v, h⟩ := H
  have HO := Lib.hid (rank_of x n L O F g b v i w h hi)
  have c0 := h.a.cell hi
  have own := h.l i hi
  have hsz := h.sz i hi
  have HI := Lib.hid (sl_index_no (v i) (L i) r w own.rd (by omega) hr)
  clear h own hsz hi hr
  go_enter Try.func27, Try.ntmps27
  go_wp2_with (first
    | (go_at_call 64; (with_reducible refine HO.out.mono ?_); rintro e w' ⟨rfl, rfl⟩)
    | (go_at_call 65; (with_reducible refine HI.out.mono ?_); rintro e w' ⟨rfl, rfl⟩)
    | (go_at_call 54; (with_reducible refine (must_no _ _ _).mono ?_); rintro e w' ⟨rfl, rfl⟩))
  exact ⟨rfl, rfl, Fr.refl _ _⟩
end
end Go.Proofs.Ytoifefcbegdjdaa
