import Derived.Test.YtoifefcbegdjdaaRankB
import Derived.Test.YtoifefcbegdjdaaRng
namespace Go.Proofs.Ytoifefcbegdjdaa
open Go.RowKit

/-! RankPlays: bad numbers, the deed as a function, its contract -/
section
variable (x n : Nat) (L : Nat → List Int) (O : Int → Option Int) (F : Nat → Prop) (i : Int) (w : World) (H : Held w x n L O F) (hi : i < 0 ∨ (n : Int) ≤ i)
include H hi
theorem rank_of_no : Calls Try.prog 64 #[.pointer (some ⟨x, 0, none⟩), .int .i64 i] w fun e w' => e = .panicked [{ v := .iface 30 (.agg #[.int .i64 3, .int .i64 i]), recovered := false }] ∧ w = w' := by
  obtain ⟨g, b, v, h⟩ := H
  have h0 := h.h.cell 0
  clear h
  rcases hi with hi | hi
  · go_enter Try.func64, Try.ntmps64
    go_wp2_with (go_at_call 54; (with_reducible refine (must_no _ _ _).mono ?_); rintro e w' ⟨rfl, rfl⟩)
    exact ⟨rfl, rfl, rfl⟩
  · have h1 : (0 : Int) ≤ i := by omega
    have h2 : decide (i < (n : Int)) = false := decide_eq_false (by omega)
    go_enter Try.func64, Try.ntmps64
    go_wp2_with (go_at_call 54; (with_reducible refine (must_no _ _ _).mono ?_); rintro e w' ⟨rfl, rfl⟩)
    exact ⟨rfl, rfl, rfl⟩
theorem rank_take_who (r : Int) : Calls Try.prog 24 #[.pointer (some ⟨x, 0, none⟩), .int .i64 i, .int .i64 r] w fun e w' => e = .panicked [{ v := .iface 30 (.agg #[.int .i64 3, .int .i64 i]), recovered := false }] ∧ w = w' := by
  have HO := Lib.hid (rank_of_no x n L O F i w H hi)
  clear H hi
  go_enter Try.func24, Try.ntmps24
  go_wp2_with (go_at_call 64; (with_reducible refine HO.out.mono ?_); rintro e w' ⟨rfl, rfl⟩)
  exact ⟨rfl, rfl, rfl⟩
theorem rank_let_who (r : Int) : Calls Try.prog 27 #[.pointer (some ⟨x, 0, none⟩), .int .i64 i, .int .i64 r] w fun e w' => e = .panicked [{ v := .iface 30 (.agg #[.int .i64 3, .int .i64 i]), recovered := false }] ∧ w = w' := by
  have HO := Lib.hid (rank_of_no x n L O F i w H hi)
  clear H hi
  go_enter Try.func27, Try.ntmps27
  go_wp2_with (go_at_call 64; (with_reducible refine HO.out.mono ?_); rintro e w' ⟨rfl, rfl⟩)
  exact ⟨rfl, rfl, rfl⟩
end


theorem rank_new_no (w : World) : Calls Try.prog 23 #[.int .i64 0] w fun e w' => e = .panicked [{ v := .iface 30 (.agg #[.int .i64 3, .int .i64 0]), recovered := false }] ∧ w = w' := by
  go_enter Try.func23, Try.ntmps23
  go_wp2_with (go_at_call 54; (with_reducible refine (must_no _ _ _).mono ?_); rintro e w' ⟨rfl, rfl⟩)
  exact ⟨rfl, rfl, rfl⟩
theorem rankPlays2 (w : World) : Calls Try.prog 34 #[] w fun e w' => Tame (.stop 3 0) e ∧ Fr (fun _ => False) w w' := by
  go_enter Try.func34, Try.ntmps34
  go_wp2_with (go_at_call 23; (with_reducible refine (rank_new_no _).mono ?_); rintro e w' ⟨rfl, rfl⟩)
  exact ⟨rfl, ⟨[], rfl, rfl⟩, Fr.refl _ _⟩

/-- what a deed comes to -/
inductive Deed (k : Nat) (L : Nat → List Int) (O : Int → Option Int) (who r : Int) : Bool → Stp → (Nat → List Int) → (Int → Option Int) → Prop
  | who (lt : Bool) (h : who < 0 ∨ (k : Int) ≤ who) : Deed k L O who r lt (.stop 3 who) L O
  | letBad (i : Nat) (h : who = i) (hi : i < k) (ho : O r ≠ some (i : Int)) : Deed k L O who r true (.stop 6 r) L O
  | letOk (i q : Nat) (h : who = i) (hi : i < k) (ho : O r = some (i : Int)) (hq : (L i)[q]? = some r) (hm : ∀ j, j < q → (L i)[j]? ≠ some r) : Deed k L O who r true .ok (upd L i ((L i).eraseIdx q)) (fun k => if k = r then none else O k)
  | low (i : Nat) (h : who = i) (hi : i < k) (ha : ¬ Above (L i) r) : Deed k L O who r false (.stop 5 r) L O
  | had (i : Nat) (y : Int) (h : who = i) (hi : i < k) (ha : Above (L i) r) (ho : O r = some y) : Deed k L O who r false (.stop 6 r) L O
  | take (i : Nat) (h : who = i) (hi : i < k) (ha : Above (L i) r) (ho : O r = none) : Deed k L O who r false .ok (upd L i (L i ++ [r])) (fun q => if q = r then some (i : Int) else O q)

theorem first_at {l : List Int} {r : Int} (h : r ∈ l) : ∃ q : Nat, l[q]? = some r ∧ ∀ j, j < q → l[j]? ≠ some r := by
  induction l with
  | nil => simp at h
  | cons y l ih =>
    by_cases e : y = r
    · exact ⟨0, by simp [e], fun j hj => by omega⟩
    · obtain ⟨q, h1, h2⟩ := ih (by simpa [Ne.symm e] using h)
      refine ⟨q + 1, h1, fun j hj => ?_⟩
      match j with
      | 0 => simpa using e
      | j + 1 => exact h2 j (by omega)

theorem Deed.any {k : Nat} {L : Nat → List Int} {O : Int → Option Int} (h : RK k L O) (who r : Int) (lt : Bool) : ∃ s L' O', Deed k L O who r lt s L' O' := by
  by_cases hw : who < 0 ∨ (k : Int) ≤ who
  · exact ⟨_, _, _, .who lt hw⟩
  · obtain ⟨i, rfl⟩ : ∃ i : Nat, who = i := ⟨who.toNat, by omega⟩
    have hi : i < k := by omega
    cases lt with
    | true =>
      by_cases ho : O r = some (i : Int)
      · obtain ⟨j, hj, e, hm⟩ := h.has r _ ho
        obtain rfl : j = i := by omega
        obtain ⟨q, h1, h2⟩ := first_at hm
        exact ⟨_, _, _, .letOk j q rfl hi ho h1 h2⟩
      · exact ⟨_, _, _, .letBad i rfl hi ho⟩
    | false =>
      by_cases ha : Above (L i) r
      · cases ho : O r with
        | none => exact ⟨_, _, _, .take i rfl hi ha ho⟩
        | some y => exact ⟨_, _, _, .had i y rfl hi ha ho⟩
      · exact ⟨_, _, _, .low i rfl hi ha⟩

theorem nodup_lt {l : List Int} (h : l.Pairwise (· < ·)) : l.Nodup := h.imp (fun h => by omega)

theorem RK.letgo {k : Nat} {L : Nat → List Int} {O : Int → Option Int} (h : RK k L O) {i q : Nat} (hi : i < k) {r : Int} (hq : (L i)[q]? = some r) : RK k (upd L i ((L i).eraseIdx q)) (fun k => if k = r then none else O k) := by
  have hql : q < (L i).length := (List.getElem?_eq_some_iff.1 hq).1
  have hqe : (L i)[q] = r := (List.getElem?_eq_some_iff.1 hq).2
  have hr : O r = some (i : Int) := h.own i r hi (by rw [← hqe]; exact List.getElem_mem hql)
  have hnm : r ∉ (L i).eraseIdx q := by
    rw [← hqe]
    intro hm
    rw [List.mem_eraseIdx_iff_getElem] at hm
    obtain ⟨j, hj1, hj2, hj3⟩ := hm
    have h2 := nodup_lt (h.inc i hi)
    exact hj2 ((List.getElem_inj h2).1 hj3)
  refine ⟨fun j hj => ?_, fun j a hj ha => ?_, fun j a hj ha => ?_, fun a y ha => ?_⟩
  · by_cases e : j = i
    · subst e; rw [upd_self]; exact (h.inc j hj).sublist (List.eraseIdx_sublist _ _)
    · rw [upd_ne _ _ e]; exact h.inc j hj
  · by_cases e : j = i
    · subst e; rw [upd_self] at ha; exact h.nn j a hj (List.mem_of_mem_eraseIdx ha)
    · rw [upd_ne _ _ e] at ha; exact h.nn j a hj ha
  · by_cases e : j = i
    · subst e; rw [upd_self] at ha
      show (if a = r then none else O a) = _
      rw [if_neg (fun e2 => hnm (by rw [← e2]; exact ha))]
      exact h.own j a hj (List.mem_of_mem_eraseIdx ha)
    · rw [upd_ne _ _ e] at ha
      show (if a = r then none else O a) = _
      have h1 := h.own j a hj ha
      rw [if_neg (fun e2 => e (by rw [e2, hr] at h1; simp at h1; omega))]
      exact h1
  · replace ha : (if a = r then none else O a) = some y := ha
    split at ha
    · simp at ha
    · rename_i hne
      obtain ⟨j, hj, hy, hm⟩ := h.has a y ha
      refine ⟨j, hj, hy, ?_⟩
      by_cases e : j = i
      · subst e; rw [upd_self]
        obtain ⟨z, hz, hz2⟩ := List.getElem_of_mem hm
        rw [List.mem_eraseIdx_iff_getElem]
        exact ⟨z, hz, fun e => hne (by subst e; exact hz2.symm.trans hqe), hz2⟩
      · rw [upd_ne _ _ e]; exact hm

theorem Deed.rk {k : Nat} {L : Nat → List Int} {O : Int → Option Int} {who r : Int} {lt : Bool} {s : Stp} {L' : Nat → List Int} {O' : Int → Option Int} (D : Deed k L O who r lt s L' O') (h : RK k L O) : RK k L' O' := by
  cases D with
  | who => exact h
  | letBad => exact h
  | letOk i q e hi ho hq hm => exact h.letgo hi hq
  | low => exact h
  | had => exact h
  | take i e hi ha ho => exact h.take hi ha ho
theorem Deed.len {k : Nat} {L : Nat → List Int} {O : Int → Option Int} {who r : Int} {lt : Bool} {s : Stp} {L' : Nat → List Int} {O' : Int → Option Int} (D : Deed k L O who r lt s L' O') {m : Nat} (h : ∀ i, i < k → (L i).length ≤ m) : ∀ i, i < k → (L' i).length ≤ m + 1 := by
  intro j hj
  have h' := h j hj
  cases D with
  | who => omega
  | letBad => omega
  | letOk i q e hi ho hq hm =>
    by_cases e : j = i
    · subst e; rw [upd_self]; have := List.length_eraseIdx_le (L j) q; omega
    · rw [upd_ne _ _ e]; omega
  | low => omega
  | had => omega
  | take i e hi ha ho =>
    by_cases e : j = i
    · subst e; rw [upd_self]; simp; omega
    · rw [upd_ne _ _ e]; omega

/-- the law's own map -/
structure MapOk (lm : List (Int × Value)) (O : Int → Option Int) : Prop where
  nd : (keysA lm).Nodup
  g : ∀ q, getA lm q = (O q).map kint
theorem getA_of_mem {lm : List (Int × Value)} (h : (keysA lm).Nodup) {p : Int × Value} (hp : p ∈ lm) : getA lm p.1 = some p.2 := by
  induction lm with
  | nil => simp at hp
  | cons a l ih =>
    simp only [keysA, List.map_cons, List.nodup_cons] at h
    rw [getA_cons]
    rcases List.mem_cons.1 hp with rfl | hp
    · rw [if_pos rfl]
    · rw [if_neg (fun e2 => h.1 (by rw [← e2]; exact List.mem_map.2 ⟨p, hp, rfl⟩))]
      exact ih h.2 hp
theorem mem_of_getA {lm : List (Int × Value)} {q : Int} {v : Value} (h : getA lm q = some v) : (q, v) ∈ lm := by
  induction lm with
  | nil => simp [getA, findAt] at h
  | cons a l ih =>
    rw [getA_cons] at h
    split at h
    · rename_i e; simp at h; subst e; subst h; simp
    · exact List.mem_cons_of_mem _ (ih h)
theorem MapOk.val {lm : List (Int × Value)} {O : Int → Option Int} (h : MapOk lm O) {p : Int × Value} (hp : p ∈ lm) : ∃ y, O p.1 = some y ∧ p.2 = kint y := by
  have h1 := getA_of_mem h.nd hp
  rw [h.g] at h1
  cases e : O p.1 with
  | none => rw [e] at h1; simp at h1
  | some y => rw [e] at h1; simp at h1; exact ⟨y, rfl, h1.symm⟩
theorem MapOk.key {lm : List (Int × Value)} {O : Int → Option Int} (h : MapOk lm O) {q y : Int} (hq : O q = some y) : (q, kint y) ∈ lm := mem_of_getA (by rw [h.g, hq]; rfl)

def okK (O : Int → Option Int) (who r : Int) (p : Int × Value) : Bool := !(O p.1 == some who) || decide (p.1 < r)
def abv (O : Int → Option Int) (who r : Int) (lm : List (Int × Value)) : Bool := decide (0 ≤ r) && lm.all (okK O who r)
theorem abv_yes {k : Nat} {L : Nat → List Int} {O : Int → Option Int} {lm : List (Int × Value)} (h : RK k L O) {i : Nat} (hi : i < k) {r : Int} (ha : Above (L i) r) : abv O i r lm = true := by
  unfold abv
  rw [decide_eq_true ha.1, Bool.true_and, List.all_eq_true]
  intro p _
  unfold okK
  by_cases e : O p.1 = some (i : Int)
  · obtain ⟨j, hj, e2, hm⟩ := h.has _ _ e
    obtain rfl : j = i := by omega
    have := above_all (h.inc j hj) ha _ hm
    simp [this]
  · simp [e]
theorem abv_no {k : Nat} {L : Nat → List Int} {O : Int → Option Int} {lm : List (Int × Value)} (h : RK k L O) (m : MapOk lm O) {i : Nat} (hi : i < k) {r : Int} (ha : ¬ Above (L i) r) : abv O i r lm = false := by
  unfold abv
  by_cases h0 : 0 ≤ r
  · rw [decide_eq_true h0, Bool.true_and, List.all_eq_false]
    obtain ⟨y, hy, hry⟩ : ∃ y, (L i).getLast? = some y ∧ r ≤ y := by
      apply Classical.byContradiction
      intro hno
      exact ha ⟨h0, fun y hy => by
        apply Classical.byContradiction
        intro h2
        exact hno ⟨y, hy, by omega⟩⟩
    have ho := h.own i y hi (List.mem_of_getLast? hy)
    refine ⟨_, m.key ho, ?_⟩
    unfold okK
    simp [ho]
    omega
  · rw [decide_eq_false h0, Bool.false_and]

def tot (L : Nat → List Int) : Nat → Nat
  | 0 => 0
  | n + 1 => tot L n + (L n).length
theorem tot_nil (n : Nat) : tot (fun _ => []) n = 0 := by
  induction n with
  | zero => rfl
  | succ n ih => simp [tot, ih]
theorem tot_congr {L L' : Nat → List Int} {n : Nat} (h : ∀ i, i < n → (L i).length = (L' i).length) : tot L n = tot L' n := by
  induction n with
  | zero => rfl
  | succ n ih => unfold tot; rw [ih (fun i hi => h i (by omega)), h n (by omega)]
theorem tot_le {L : Nat → List Int} {n m : Nat} (h : ∀ i, i < n → (L i).length ≤ m) {j : Nat} (hj : j ≤ n) : tot L j ≤ j * m := by
  induction j with
  | zero => simp [tot]
  | succ j ih =>
    unfold tot
    have := ih (by omega)
    have := h j (by omega)
    rw [Nat.succ_mul]
    omega
theorem tot_upd {L : Nat → List Int} {n i : Nat} (hi : i < n) (l : List Int) : tot (upd L i l) n + (L i).length = tot L n + l.length := by
  induction n with
  | zero => omega
  | succ n ih =>
    unfold tot
    by_cases e : i = n
    · subst e
      rw [upd_self, tot_congr (L := upd L i l) (L' := L) (fun j hj => by rw [upd_ne _ _ (by omega)])]
      omega
    · rw [upd_ne _ _ (fun e2 => e e2.symm)]
      have := ih (by omega)
      omega
theorem ins_len {lm : List (Int × Value)} {q : Int} {v : Value} (h : getA lm q = none) : (insA lm q v).length = lm.length + 1 := by
  unfold getA at h
  cases e : findAt lm q 0 with
  | none => rw [(findAt_none e).1]; simp
  | some x => rw [e] at h; simp at h
theorem del_len {lm : List (Int × Value)} {q : Int} {v : Value} (h : getA lm q = some v) : (delA lm q).length + 1 = lm.length := by
  unfold getA at h
  cases e : findAt lm q 0 with
  | none => rw [e] at h; simp at h
  | some x =>
    obtain ⟨j, u⟩ := x
    obtain ⟨h1, _, h3⟩ := findAt_some e
    have := (List.getElem?_eq_some_iff.1 h1).1
    rw [h3, List.length_eraseIdx, if_pos this]
    omega
theorem MapOk.ins {lm : List (Int × Value)} {O : Int → Option Int} (h : MapOk lm O) (r i : Int) : MapOk (insA lm r (kint i)) (fun q => if q = r then some i else O q) :=
  ⟨nodup_ins h.nd _ _, fun q => by rw [getA_ins, h.g]; split <;> rfl⟩
theorem MapOk.del {lm : List (Int × Value)} {O : Int → Option Int} (h : MapOk lm O) (r : Int) : MapOk (delA lm r) (fun q => if q = r then none else O q) :=
  ⟨nodup_del h.nd _, fun q => by rw [getA_del h.nd, h.g]; split <;> rfl⟩


theorem Deed.is {k : Nat} {L : Nat → List Int} {O : Int → Option Int} {who r : Int} {lt : Bool} {s : Stp} {L' : Nat → List Int} {O' : Int → Option Int} (D : Deed k L O who r lt s L' O') : (s.is = false ∧ s.why = 0 ∧ s.at = 0) ∨ (s.is = true ∧ (s.why == 0) = false) := by
  cases D <;> simp

/-- what the law's own switch does -/
theorem Deed.sw {k : Nat} {L : Nat → List Int} {O : Int → Option Int} {who r : Int} {lt : Bool} {s : Stp} {L' : Nat → List Int} {O' : Int → Option Int} (D : Deed k L O who r lt s L' O') (hR : RK k L O) {lm : List (Int × Value)} (m : MapOk lm O)
    {wb c oh : Bool} {oy : Int} (hwb : wb = decide (who < 0 ∨ (k : Int) ≤ who)) (hc : c = abv O who r lm) (hoh : oh = (O r).isSome) (hoy : oy = (O r).getD 0) :
    (wb = true ∧ s.why = 3 ∧ s.at = who ∧ O' = O ∧ tot L' k = tot L k) ∨
    (wb = false ∧ lt = true ∧ oh = false ∧ s.why = 6 ∧ s.at = r ∧ O' = O ∧ tot L' k = tot L k) ∨
    (wb = false ∧ lt = true ∧ oh = true ∧ (oy != who) = true ∧ s.why = 6 ∧ s.at = r ∧ O' = O ∧ tot L' k = tot L k) ∨
    (wb = false ∧ lt = true ∧ oh = true ∧ (oy != who) = false ∧ s.why = 0 ∧ s.at = 0 ∧ O' = (fun k => if k = r then none else O k) ∧ tot L' k + 1 = tot L k ∧ O r = some who) ∨
    (wb = false ∧ lt = false ∧ c = false ∧ s.why = 5 ∧ s.at = r ∧ O' = O ∧ tot L' k = tot L k) ∨
    (wb = false ∧ lt = false ∧ c = true ∧ oh = true ∧ s.why = 6 ∧ s.at = r ∧ O' = O ∧ tot L' k = tot L k) ∨
    (wb = false ∧ lt = false ∧ c = true ∧ oh = false ∧ s.why = 0 ∧ s.at = 0 ∧ O' = (fun k => if k = r then some who else O k) ∧ tot L' k = tot L k + 1 ∧ O r = none) := by
  subst hwb hc hoh hoy
  cases D with
  | who lt hw => exact .inl ⟨decide_eq_true hw, rfl, rfl, rfl, rfl⟩
  | letBad i e hi ho =>
    subst e
    have hw : decide ((i : Int) < 0 ∨ (k : Int) ≤ i) = false := decide_eq_false (by omega)
    cases h3 : O r with
    | none => exact .inr (.inl ⟨hw, rfl, rfl, rfl, rfl, rfl, rfl⟩)
    | some y => exact .inr (.inr (.inl ⟨hw, rfl, rfl, by rw [h3] at ho; simpa using ho, rfl, rfl, rfl, rfl⟩))
  | letOk i q e hi ho hq hm =>
    subst e
    have hw : decide ((i : Int) < 0 ∨ (k : Int) ≤ i) = false := decide_eq_false (by omega)
    have hql : q < (L i).length := (List.getElem?_eq_some_iff.1 hq).1
    have e1 := tot_upd (L := L) hi ((L i).eraseIdx q)
    rw [List.length_eraseIdx, if_pos hql] at e1
    exact .inr (.inr (.inr (.inl ⟨hw, rfl, by rw [ho]; rfl, by rw [ho]; simp, rfl, rfl, rfl, by omega, ho⟩)))
  | low i e hi ha =>
    subst e
    have hw : decide ((i : Int) < 0 ∨ (k : Int) ≤ i) = false := decide_eq_false (by omega)
    exact .inr (.inr (.inr (.inr (.inl ⟨hw, rfl, abv_no hR m hi ha, rfl, rfl, rfl, rfl⟩))))
  | had i y e hi ha ho =>
    subst e
    have hw : decide ((i : Int) < 0 ∨ (k : Int) ≤ i) = false := decide_eq_false (by omega)
    exact .inr (.inr (.inr (.inr (.inr (.inl ⟨hw, rfl, abv_yes hR hi ha, by rw [ho]; rfl, rfl, rfl, rfl, rfl⟩)))))
  | take i e hi ha ho =>
    subst e
    have hw : decide ((i : Int) < 0 ∨ (k : Int) ≤ i) = false := decide_eq_false (by omega)
    have e1 := tot_upd (L := L) hi (L i ++ [r])
    rw [List.length_append] at e1
    simp only [List.length_cons, List.length_nil] at e1
    exact .inr (.inr (.inr (.inr (.inr (.inr ⟨hw, rfl, abv_yes hR hi ha, by rw [ho]; rfl, rfl, rfl, rfl, by omega, ho⟩)))))

set_option maxHeartbeats 2000000 in
theorem rankPlays1 (x k bx bq : Nat) (L : Nat → List Int) (O : Int → Option Int) (F : Nat → Prop) (who r : Int) (lt : Bool) (s : Stp) (L' : Nat → List Int) (O' : Int → Option Int) (w0 w : World) (h : RankSt w0 x k bx L O F w)
    (hb : Blk w bq #[.int .i64 who, .int .i64 r, .bool lt] 44) (D : Deed k L O who r lt s L' O') (hR : RK k L O) (hm : ∀ i, i < k → (L i).length < 100000) :
    Calls Try.prog 32 #[.pointer (some ⟨bq, 0, none⟩), .pointer (some ⟨bx, 0, none⟩)] w fun e w' => Tame s e ∧ Fr F w w' ∧ ∃ F', RankSt w0 x k bx L' O' F' w' ∧ ∀ q, F' q → F q ∨ w.heap.size ≤ q := by
  have c0 := h.B.cell 0
  have c1 := hb.cell 0
  have c2 := hb.cell 1
  have c3 := hb.cell 2
  have HS := Lib.hid h
  cases D with
  | who lt hw =>
    have HT := Lib.hid (rank_take_who x k L O F who w h.H hw r)
    have HL := Lib.hid (rank_let_who x k L O F who w h.H hw r)
    clear h hb hR hm hw
    cases lt
    all_goals
      go_enter Try.func32, Try.ntmps32
      go_wp2_with (first
        | (go_at_call 24; (with_reducible refine HT.out.mono ?_); rintro e w' ⟨rfl, rfl⟩)
        | (go_at_call 27; (with_reducible refine HL.out.mono ?_); rintro e w' ⟨rfl, rfl⟩))
      exact ⟨rfl, ⟨[], rfl, rfl⟩, Fr.refl _ _, F, HS.out, fun _ => .inl⟩
  | letBad i e hi ho =>
    subst e
    have HL := Lib.hid (rank_let_bad x k L O F i w h.H hi r (fun hr => ho (hR.own i r hi hr)))
    clear h hb hR hm ho
    go_enter Try.func32, Try.ntmps32
    go_wp2_with (go_at_call 27; (with_reducible refine HL.out.mono ?_); rintro e w' ⟨rfl, f⟩; have HFF := Lib.hid f; clear f)
    exact ⟨rfl, ⟨[], rfl, rfl⟩, HFF.out.mono (fun _ _ h => h.elim), F, HS.out.fr HFF.out, fun _ => .inl⟩
  | letOk i q e hi ho hq hmn =>
    subst e
    have HL := Lib.hid (rank_let x k L O F i w h.H hi r q hq hmn)
    clear h hb hR hm ho hq hmn
    go_enter Try.func32, Try.ntmps32
    go_wp2_with (go_at_call 27; (with_reducible refine HL.out.mono ?_); rintro e w' ⟨rfl, f, H⟩; have HFF := Lib.hid f; have HH := Lib.hid H; clear f H)
    go_end0
    exact ⟨⟨_, rfl⟩, HFF.out, F, HS.out.to HFF.out HH.out (fun _ => .inl), fun _ => .inl⟩
  | low i e hi ha =>
    subst e
    have HT := Lib.hid (rank_take_low x k L O F i w h.H hi r ha)
    clear h hb hR hm ha
    go_enter Try.func32, Try.ntmps32
    go_wp2_with (go_at_call 24; (with_reducible refine HT.out.mono ?_); rintro e w' ⟨rfl, f⟩; have HFF := Lib.hid f; clear f)
    exact ⟨rfl, ⟨[], rfl, rfl⟩, HFF.out.mono (fun _ _ h => h.elim), F, HS.out.fr HFF.out, fun _ => .inl⟩
  | had i y e hi ha ho =>
    subst e
    have HT := Lib.hid (rank_take_had x k L O F i w h.H hi r y ha ho)
    clear h hb hR hm ha ho
    go_enter Try.func32, Try.ntmps32
    go_wp2_with (go_at_call 24; (with_reducible refine HT.out.mono ?_); rintro e w' ⟨rfl, f⟩; have HFF := Lib.hid f; clear f)
    exact ⟨rfl, ⟨[], rfl, rfl⟩, HFF.out.mono (fun _ _ h => h.elim), F, HS.out.fr HFF.out, fun _ => .inl⟩
  | take i e hi ha ho =>
    subst e
    have HT := Lib.hid (rank_take x k L O F i w h.H hi r ha ho (hm i hi))
    clear h hb hR hm ha ho
    go_enter Try.func32, Try.ntmps32
    go_wp2_with (go_at_call 24; (with_reducible refine HT.out.mono ?_); rintro e w' ⟨rfl, f, F', H, hF⟩; have HFF := Lib.hid f; have HH := Lib.hid H; have HF2 := Lib.hid hF; clear f H hF)
    go_end0
    exact ⟨⟨_, rfl⟩, HFF.out, F', HS.out.to HFF.out HH.out HF2.out, HF2.out⟩
end Go.Proofs.Ytoifefcbegdjdaa
