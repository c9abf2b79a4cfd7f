import Derived.Test.YtoifefcbegdjdaaTlb2
import Derived.Deep.RegionLaw
namespace Go.Proofs.Ytoifefcbegdjdaa
open Go.RowKit

/-- the entries without a place's -/
def others (l : List Ent) (m : Ent) : List Ent := l.filter (fun y => !decide (y.p = m.p ∧ y.at_ = m.at_))
def fillL (l : List Ent) (m : Ent) : List Ent := (others l m ++ [m]).drop ((others l m).length + 1 - 4)
theorem others_le (l : List Ent) (m : Ent) : (others l m).length ≤ l.length := List.length_filter_le _ _
theorem fillL_le (l : List Ent) (m : Ent) : (fillL l m).length ≤ 4 := by
  unfold fillL
  rw [List.length_drop, List.length_append]
  simp only [List.length_cons, List.length_nil]
  omega

theorem of_at {w : World} {e : TypeId} {size n : Nat} {v : Value} {xs : List Value} (h : Own w e size n v xs) {k : Nat} (hk : At v k) : Of v k := by
  obtain ⟨off, len, cap, rfl⟩ := hk
  rcases h.cases with ⟨h, _⟩ | ⟨g, cap', h, _⟩
  · simp at h
  · simp only [Value.slice.injEq, Option.some.injEq, Addr.mk.injEq] at h
    obtain ⟨⟨rfl, _⟩, _⟩ := h
    rfl

section
variable (x n : Nat) (E : Nat → List Ent) (F : Nat → Prop) (i : Nat) (w : World) (h : Tlb w x n E F) (hi : i < n)
include h hi
set_option maxRecDepth 100000 in
theorem tlb_fill (m : Ent) :
    Calls Try.prog 38 #[.pointer (some ⟨x, 0, none⟩), .int .i64 i, m.v] w fun e w' => e = .returned (.tuple #[]) ∧ Fr F w w' ∧ ∃ F', Tlb w' x n (upd E i (fillL (E i) m)) F' ∧ ∀ k, F' k → F k ∨ w.heap.size ≤ k := by
  obtain ⟨i0, hif, hz0, hz1, hz2⟩ := info_parts info_map
  obtain ⟨g, v, h⟩ := h
  have F0 : Fr (fun _ => False) w (w.alloc (.cells #[.int .i64 m.p, .int .i64 m.at_, .int .i64 m.page] 56)) := (Fr.refl _ _).alloc _
  have B0 := Blk.at_new (w := w) (b := w.heap.size) (c := #[.int .i64 m.p, .int .i64 m.at_, .int .i64 m.page]) (t := 56) rfl
  obtain ⟨w0, hw0⟩ : ∃ w0, w0 = w.alloc (.cells #[.int .i64 m.p, .int .i64 m.at_, .int .i64 m.page] 56) := ⟨_, rfl⟩
  rw [← hw0] at F0 B0
  have hs0 : w0.heap.size = w.heap.size + 1 := by rw [hw0]; simp
  have H0 := h.fr F0 (fun _ _ => id)
  have hsz := h.sz i hi
  have hol := others_le (E i) m
  have HH := tlb_has x n E F w0 ⟨g, v, H0⟩ i hi
  have HC := maps_clone (v i) (E i) w0 (H0.l i hi) (by omega)
  have DEL : Hid (∀ v1 w1, Own w1 56 3 (E i).length v1 (ents (E i)) → Fr (fun _ => False) w0 w1 → (∀ k, Of v1 k → w0.heap.size ≤ k) →
      Calls Try.prog 70 #[v1, .func (.func 72) #[] #[.pointer (some ⟨w.heap.size, 0, none⟩)]] w1 fun e w2 => ∃ v2, e = .returned v2 ∧
        Own w2 56 3 (others (E i) m).length v2 (ents (others (E i) m)) ∧ Fr (fun _ => False) w0 w2 ∧ (∀ k, Of v2 k → w0.heap.size ≤ k) ∧
        w2.cell? ⟨w.heap.size, 0, none⟩ = some (.int .i64 m.p) ∧ w2.cell? ⟨w.heap.size, 1, none⟩ = some (.int .i64 m.at_) ∧ w2.cell? ⟨w.heap.size, 2, none⟩ = some (.int .i64 m.page)) := fun v1 w1 O1 F1 N1 => by
    have hat : ∀ k, At v1 k → w0.heap.size ≤ k := fun k hk => N1 k (of_at O1 hk)
    refine (maps_delete 72 #[.pointer (some ⟨w.heap.size, 0, none⟩)] (fun y => decide (y.p = m.p ∧ y.at_ = m.at_)) v1 (E i) w1 (fun args w => by simp [go_sem]) (fun W y f => ?_) (Seg.of_own O1) (by omega)).mono ?_
    · have B1 := (B0.fr F1 id).fr f (fun hk => by have := hat _ hk; omega)
      exact tlb_fill1 w.heap.size m y W (B1.cell 0) (B1.cell 1) B1.lt
    · rintro e w2 ⟨v2, rfl, S2, F2, A2, Q2⟩
      have B1 := (B0.fr F1 id).fr F2 (fun hk => by have := hat _ hk; omega)
      refine ⟨v2, rfl, ?_, F1.step F2 (fun k hk hs => by have := hat _ hs; omega), fun k hk => ?_, B1.cell 0, B1.cell 1, B1.cell 2⟩
      · rcases O1.cases with ⟨rfl, _, _⟩ | ⟨b1, c1, rfl, _⟩
        · rcases Q2 with ⟨_, rfl⟩ | ⟨a, q1, q2, c, e1, rfl⟩
          · rcases S2 with ⟨_, e⟩ | ⟨_, _, _, _, e, _⟩
            · have e' : others (E i) m = [] := e
              rw [e']; exact Own.nil _ _ _
            · simp at e
          · simp only [Value.slice.injEq] at e1
            obtain ⟨rfl, rfl, rfl⟩ := e1
            rcases S2 with ⟨e2, e⟩ | ⟨_, _, _, _, e, _⟩
            · have e' : others (E i) m = [] := e
              rw [e', e2]; exact Own.nil _ _ _
            · simp at e
        · rcases Q2 with ⟨e1, _⟩ | ⟨a, q1, q2, c, e1, rfl⟩
          · simp at e1
          · simp only [Value.slice.injEq] at e1
            obtain ⟨rfl, rfl, rfl⟩ := e1
            exact S2.own.1
      · refine hat k (A2 k ?_)
        rcases Q2 with ⟨rfl, rfl⟩ | ⟨a, q1, q2, c, rfl, rfl⟩
        · simp [Of, Value.ownBlock] at hk
        · rcases S2 with ⟨e2, e⟩ | ⟨b', o', c', _, e, _⟩
          · simp only [Value.slice.injEq] at e2
            obtain ⟨rfl, rfl, rfl⟩ := e2
            simp [Of, Value.ownBlock] at hk
          · simp only [Value.slice.injEq] at e
            obtain ⟨rfl, rfl, rfl⟩ := e
            have e' : some b' = some k := hk
            simp at e'
            subst e'
            exact ⟨_, _, _, rfl⟩
  have HH := Lib.hid HH
  have HC := Lib.hid HC
  have h0 := h.h.cell 0
  have hgi := h.a.cell hi
  have hx := h.h.lt
  have hgl := h.a.lt
  have hfr := h.a.frozen
  have hi' : (i : Int) < n := by omega
  have HT := Lib.hid h
  have HF0 := Lib.hid F0
  have HS0 := Lib.hid hs0
  obtain ⟨ol, hol'⟩ : ∃ ol, ol = others (E i) m := ⟨_, rfl⟩
  rw [← hol'] at DEL hol
  have HOL := Lib.hid hol'
  have APP : Hid (∀ v2 w2, Own w2 56 3 ol.length v2 (ents ol) → Own (w2.alloc (.cells #[.int .i64 m.p, .int .i64 m.at_, .int .i64 m.page] 56)) 56 3 ol.length v2 (ents ol) ∧
      ∀ j u, [Value.int .i64 m.p, .int .i64 m.at_, .int .i64 m.page][j]? = some u → (w2.alloc (.cells #[.int .i64 m.p, .int .i64 m.at_, .int .i64 m.page] 56)).cell? ((⟨w2.heap.size, 0, none⟩ : Addr).add j) = some u) := fun v2 w2 O2 => ⟨O2.fr ((Fr.refl (fun _ => False) _).alloc _) (fun _ _ => id), fun j u hj => by
    have hadd : (⟨w2.heap.size, 0, none⟩ : Addr).add j = ⟨w2.heap.size, j, none⟩ := by unfold Addr.add; split <;> simp_all
    rw [hadd, (Blk.at_new (w := w2) (b := w2.heap.size) (t := 56) rfl).cell]
    simpa using hj⟩
  have AFT : Hid (∀ v2 w2 v3 w3, Fr (fun _ => False) w0 w2 → (∀ k, Of v2 k → w0.heap.size ≤ k) → Own w3 56 3 (ol.length + 1) v3 (ents ol ++ [.int .i64 m.p, .int .i64 m.at_, .int .i64 m.page]) → Fr (Of v2) (w2.alloc (.cells #[.int .i64 m.p, .int .i64 m.at_, .int .i64 m.page] 56)) w3 → (∀ k, Of v3 k → Of v2 k ∨ (w2.alloc (.cells #[.int .i64 m.p, .int .i64 m.at_, .int .i64 m.page] 56)).heap.size ≤ k) →
      ∃ b cap, v3 = .slice (some ⟨b, 0, none⟩) (ol.length + 1) cap ∧ (ol.length : Int) + 1 ≤ cap ∧ (cap : Int) ≤ 9223372036854775807 ∧ w3.cell? ⟨x, 0, none⟩ = some (.slice (some ⟨g, 0, none⟩) n n) ∧ w3.cell? ⟨g, i, none⟩ = some (v i) ∧ (∀ j, w3.frozen? ⟨g, j, none⟩ = false) ∧ g < w3.heap.size ∧
        Hid (Fr (fun _ => False) w w3 ∧ w.heap.size ≤ b ∧ Seg w3 (.slice (some ⟨b, 0, none⟩) (ol.length + 1) cap) (ol ++ [m]))) := fun v2 w2 v3 w3 F2 N2 O3 F3 N3 => by
    have f3 : Fr (fun _ => False) w w3 := F0.trans ((F2.alloc _).step F3 (fun k hk hs => by have := N2 k hs; omega))
    have hs3 := F2.size
    rcases O3.cases with ⟨_, h1, _⟩ | ⟨b, cap, rfl, h1, h2, h3, _⟩
    · omega
    · unfold maxLen at h3
      refine ⟨b, cap, rfl, by omega, by omega, f3.cellAt HT.out.h.lt (HT.out.h.cell 0), f3.cellAt HT.out.a.lt (HT.out.a.cell hi), (HT.out.a.fr f3 id).frozen, (HT.out.a.fr f3 id).lt, f3, ?_, ?_⟩
      · rcases N3 b rfl with h | h
        · have := N2 b h; omega
        · simp at h; omega
      · have e : ents ol ++ [.int .i64 m.p, .int .i64 m.at_, .int .i64 m.page] = ents (ol ++ [m]) := by rw [ents_append]; rfl
        rw [e] at O3
        exact Seg.of_own O3
  clear h H0 F0 B0 hs0 hol'
  unfold Ent.v
  subst hw0
  go_enter Try.func38, Try.ntmps38
  go_wp2_with (first
    | (go_at_call 69; with_reducible refine HH.out.mono ?_; rintro e w' ⟨rfl, rfl⟩)
    | (go_at_call 71; with_reducible refine HC.out.mono ?_; rintro e w1 ⟨v1, rfl, O1, F1, N1⟩; have HD := Lib.hid (DEL.out v1 w1 O1 F1 N1); clear O1 F1 N1)
    | (go_at_call 70; with_reducible refine HD.out.mono ?_; rintro e w2 ⟨v2, rfl, O2, F2, N2, k0, k1, k2⟩; have HO2 := Lib.hid O2; have HF2 := Lib.hid F2; have HN2 := Lib.hid N2; clear O2 F2 N2)
    | (at_builtin; refine wpList_append_fresh rfl _ _ 63 rfl 56 i0 _ 3 24 Try.underlying63 hif hz0 hz1 hz2 rfl (by decide) _ ol.length (ents ol) rfl (APP.out v2 w2 HO2.out).1 ⟨w2.heap.size, 0, none⟩ 1 1 [.int .i64 m.p, .int .i64 m.at_, .int .i64 m.page] rfl rfl (APP.out v2 w2 HO2.out).2 (by simp [Value.oneCell']) (by unfold maxLen; omega) (by omega) ?_; intro v3 w3 O3 F3 N3; obtain ⟨b3, cap3, rfl, q1, q2, n0, n1, n2, n3, HW⟩ := AFT.out v2 w2 v3 w3 HF2.out HN2.out O3 F3 N3; clear O3 F3 N3))
  have hend : ∀ d : Nat, d = ol.length + 1 - 4 → Fr F w (w3.setCell ⟨g, i, none⟩ (.slice (some ⟨b3, d * 3, none⟩) (ol.length + 1 - d) (cap3 - d))) ∧ ∃ F', Tlb (w3.setCell ⟨g, i, none⟩ (.slice (some ⟨b3, d * 3, none⟩) (ol.length + 1 - d) (cap3 - d))) x n (upd E i (fillL (E i) m)) F' ∧ ∀ k, F' k → F k ∨ w.heap.size ≤ k := fun d hd => by
    obtain ⟨f3, hb3, S3⟩ := HW.out
    have S4 := S3.drop d (by rw [List.length_append]; simp only [List.length_cons, List.length_nil]; omega)
    rw [Nat.zero_add] at S4
    have e : (ol ++ [m]).drop d = fillL (E i) m := by rw [hd, HOL.out]; rfl
    rw [e] at S4
    obtain ⟨a1, a2, a3⟩ := HT.out.turn hi f3 (fun _ => False.elim) S4 (fun k ⟨_, _, _, e⟩ => .inr (by simp only [Value.slice.injEq, Option.some.injEq, Addr.mk.injEq] at e; omega)) (by have := fillL_le (E i) m; omega)
    exact ⟨a2, _, ⟨g, _, a1⟩, fun k hk => hk.elim .inl (a3 k)⟩
  have HE := Lib.hid hend
  clear hend
  by_cases hc : ol.length + 1 ≤ 4
  · have hA : (ol.length : Int) + 1 - 4 ≤ 0 := by omega
    have HCC := Lib.hid hc
    clear hc
    go_region
    go_end0
    have e := HE.out 0 (by have := HCC.out; omega)
    simp only [Nat.zero_mul, Nat.sub_zero] at e
    obtain ⟨e1, F', e2, e3⟩ := e
    exact ⟨rfl, e1.drew, F', e2.fr (Fr.refl (fun _ => False) _).drew (fun _ _ => id), e3⟩
  · obtain ⟨d, hd⟩ : ∃ d : Nat, ol.length + 1 = d + 4 := ⟨ol.length + 1 - 4, by omega⟩
    have hB : (ol.length : Int) + 1 - 4 = d := by omega
    have hB2 : (0 : Int) ≤ d := by omega
    have hB3 : (d : Int) ≤ ol.length + 1 := by omega
    have e := HE.out d (by omega)
    rw [show ol.length + 1 - d = 4 by omega] at e
    have E4 := Lib.hid e
    clear e
    go_region
    go_end0
    obtain ⟨e1, F', e2, e3⟩ := E4.out
    exact ⟨rfl, e1.drew, F', e2.fr (Fr.refl (fun _ => False) _).drew (fun _ _ => id), e3⟩
end

/-- the entries of other pages -/
def spared (l : List Ent) (pl : List Int) : List Ent := l.filter (fun y => !decide (y.page ∈ pl))
theorem spared_le (l : List Ent) (pl : List Int) : (spared l pl).length ≤ l.length := List.length_filter_le _ _

section
variable (x n : Nat) (E : Nat → List Ent) (F : Nat → Prop) (i : Nat) (w : World) (h : Tlb w x n E F) (hi : i < n)
include h hi
set_option maxHeartbeats 4000000 in
set_option maxRecDepth 100000 in
theorem tlb_drop (pv : Value) (pl : List Int) (R : Rd w pv (ints pl)) (hb : ∀ k, At pv k → ¬ F k) (hpl : pl.length ≤ 1000000) :
    Calls Try.prog 49 #[.pointer (some ⟨x, 0, none⟩), .int .i64 i, pv] w fun e w' => e = .returned (.int .i64 ((E i).length - (spared (E i) pl).length : Int)) ∧ Fr F w w' ∧ ∃ F', Tlb w' x n (upd E i (spared (E i) pl)) F' ∧ ∀ k, F' k → F k ∨ w.heap.size ≤ k := by
  obtain ⟨g, v, h⟩ := h
  obtain ⟨pa, pc, hpv, _, _⟩ := R.form
  obtain ⟨pn, hpn⟩ : ∃ pn, pn = (ints pl).length := ⟨_, rfl⟩
  rw [← hpn] at hpv
  subst hpv
  obtain ⟨pv, hpv⟩ : ∃ pv, pv = Value.slice pa pn pc := ⟨_, rfl⟩
  rw [← hpv] at R hb
  have F0 : Fr (fun _ => False) w (w.alloc (.cells #[pv] 24)) := (Fr.refl _ _).alloc _
  have B0 := Blk.at_new (w := w) (b := w.heap.size) (c := #[pv]) (t := 24) rfl
  have H0 := h.fr F0 (fun _ _ => id)
  have hsz := h.sz i hi
  have hol := spared_le (E i) pl
  have HH := Lib.hid (tlb_has x n E F _ ⟨g, v, H0⟩ i hi)
  have DEL := maps_delete 79 #[.pointer (some ⟨w.heap.size, 0, none⟩)] (fun y => decide (y.page ∈ pl)) (v i) (E i) (w.alloc (.cells #[pv] 24)).drew (fun args w => by simp [go_sem])
    (fun W y f => by
      have f2 := (Fr.refl (fun k => At (v i) k) (w.alloc (.cells #[pv] 24))).drew.trans f
      have B1 := B0.fr f2 (fun hk => by have := (h.l i hi).lt hk; omega)
      exact tlb_drop1 w.heap.size pv pl y W (B1.cell 0) ((R.fr F0 (fun _ _ => id)).fr f2 (fun k hk hs => hb k hk (h.fl i k hi hs))) hpl B1.lt)
    ((H0.l i hi).fr (Fr.refl (fun _ => False) _).drew (fun _ _ => id)) (by omega)
  obtain ⟨a, cap, hv, hcap, _⟩ := (h.l i hi).form
  have h0 := h.h.cell 0
  have hgi := h.a.cell hi
  have hx := h.h.lt
  have hgl := h.a.lt
  have hfr := h.a.frozen
  have hi' : (i : Int) < n := by omega
  have hlen : ((E i).length : Int) ≤ 1000 := by omega
  obtain ⟨ol, hol'⟩ : ∃ ol, ol = spared (E i) pl := ⟨_, rfl⟩
  rw [← hol'] at hol
  have hl2 : (ol.length : Int) ≤ (E i).length := by omega
  have AFT : Hid (∀ v2 w2, Seg w2 v2 ol → Fr (fun k => At (v i) k) (w.alloc (.cells #[pv] 24)).drew w2 → (∀ k, At v2 k → At (v i) k) →
      ∃ a2 cap2, v2 = .slice a2 ol.length cap2 ∧ w2.cell? ⟨x, 0, none⟩ = some (.slice (some ⟨g, 0, none⟩) n n) ∧ w2.cell? ⟨g, i, none⟩ = some (v i) ∧ (∀ j, w2.frozen? ⟨g, j, none⟩ = false) ∧ g < w2.heap.size ∧ x < w2.heap.size ∧ g ≠ x ∧
        Hid (Fr F w (w2.setCell ⟨g, i, none⟩ v2) ∧ ∃ F', Tlb (w2.setCell ⟨g, i, none⟩ v2) x n (upd E i ol) F' ∧ ∀ k, F' k → F k ∨ w.heap.size ≤ k)) := fun v2 w2 S2 F2 A2 => by
    have f2 : Fr (fun k => At (v i) k) w w2 := (F0.drew.mono (fun k _ => False.elim)).trans F2
    obtain ⟨a2, cap2, e2, _⟩ := S2.form
    have hgx : g ≠ x := h.a.ne h.h (by decide)
    have hxv : ¬ At (v i) x := (h.l i hi).ne h.h (by decide)
    have hgv : ¬ At (v i) g := h.a.elim fun c hc => (h.l i hi).ne hc.1 (by decide)
    obtain ⟨t1, t2, t3⟩ := h.turn hi f2 (fun _ => id) S2 (fun k hk => .inl (A2 k hk)) (by omega)
    exact ⟨a2, cap2, e2, (h.h.fr f2 hxv).cell 0, (h.a.fr f2 hgv).cell hi, (h.a.fr f2 hgv).frozen, (h.a.fr f2 hgv).lt, (h.h.fr f2 hxv).lt, hgx, t2, _, ⟨g, _, t1⟩, fun k hk => hk.elim .inl (t3 k)⟩
  rw [show (fun y : Ent => !decide (y.page ∈ pl)) = (fun y => !decide (y.page ∈ pl)) from rfl, show (E i).filter (fun y => !decide (y.page ∈ pl)) = ol from hol'.symm] at DEL
  rw [← hol']
  rw [hv] at hgi DEL AFT
  have HD := Lib.hid DEL
  clear h H0 F0 B0 R hb hpl hol' DEL hv hpn
  subst hpv
  go_enter Try.func49, Try.ntmps49
  go_wp2_with (go_at_call 69; with_reducible refine HH.out.mono ?_; rintro e w' ⟨rfl, rfl⟩)
  go_region_law
    (first | (go_simp; go_at_call 70; with_reducible refine HD.out.mono ?_; rintro e w2 ⟨v2, rfl, S2, F2, A2, _⟩; obtain ⟨a2, cap2, rfl, n0, n1, n2, n3, n4, n5, HW⟩ := AFT.out v2 w2 S2 F2 A2; clear S2 F2 A2))
  all_goals go_wp2_with fail
  rotate_left 1
  all_goals go_ret
  all_goals (first | exact ⟨rfl, HW.out.1, HW.out.2⟩ | exact ⟨rfl, HW.out.1.drew, HW.out.2.elim fun F' h => ⟨F', h.1.fr (Fr.refl (fun _ => False) _).drew (fun _ _ => id), h.2⟩⟩)
end
end Go.Proofs.Ytoifefcbegdjdaa
