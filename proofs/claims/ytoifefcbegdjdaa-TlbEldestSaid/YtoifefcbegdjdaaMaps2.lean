import Derived.Test.YtoifefcbegdjdaaMaps
namespace Go.Proofs.Ytoifefcbegdjdaa
open Go.RowKit

/-- 'clear(s)' of elements of k cells -/
theorem run_clear_k {P : Program} (w : World) (t e ty : TypeId) (z : Value) (k : Nat) (ht : P.underlying t = some (.slice e)) (hv : ∀ w, (zeroValue e).run P w = .ok z w) (hk : z.cells.size = k) (h1 : ∀ u ∈ z.cells.toList, u.oneCell' = true) (hk0 : 0 < k) (b o n c : Nat) (hn : 0 < n)
    (hc : ∀ j, j < n * k → (w.cell? ⟨b, o + j, none⟩).isSome = true) (hf : ∀ j, j < n * k → w.frozen? ⟨b, o + j, none⟩ = false) :
    (Builtin.clear_ #[t] ty #[.slice (some ⟨b, o, none⟩) n c]).run P w = .ok (.tuple #[]) (w.setCells b o (Builtin.zeroCells z.cells n).toList) := by
  have hz : (Builtin.zeroCells z.cells n).toList.length = n * k := by simp [Builtin.zeroCells, hk]
  have hst := run_storeCells_cells (P := P) b o (Builtin.zeroCells z.cells n).toList 0 w (by rw [hz]; simpa using hc) (by rw [hz]; simpa using hf) (by
    intro v hv'
    simp only [Builtin.zeroCells, Array.toList_map, List.mem_map] at hv'
    obtain ⟨i, _, rfl⟩ := hv'
    have hlt : i % z.cells.size < z.cells.size := Nat.mod_lt _ (by omega)
    rw [getElem!_pos z.cells _ hlt]
    exact h1 _ (by simp))
  simp only [Nat.add_zero] at hst
  obtain ⟨m, rfl⟩ : ∃ m, n = m + 1 := ⟨n - 1, by omega⟩
  simp [Builtin.clear_, run_underlying ht, hv, hst]

theorem Rec.setCells {w : World} {b n k : Nat} {f : Nat → Nat → Value} {t : TypeId} (h : Rec w b n k f t) (o : Nat) (vs : List Value) :
    ∃ f', Rec (w.setCells b (o * k) vs) b n k f' t ∧ ∀ i j, i < o → i < n → j < k → f' i j = f i j := by
  obtain ⟨c, h1, h2, h3⟩ := h
  obtain ⟨c', d1, d2, d3⟩ := h1.setCells vs w c (o * k)
  refine ⟨fun i j => c'[i * k + j]!, ⟨c', d1, by omega, fun i j hi hj => ?_⟩, fun i j hi hn hj => ?_⟩
  · have := mulk_lt hi hj
    rw [Array.getElem?_eq_getElem (show i * k + j < c'.size by omega)]
    exact congrArg some (getElem!_pos c' (i * k + j) (by omega)).symm
  · have hl := mulk_lt hn hj
    have hl2 := mulk_lt hi hj
    have e := d3 (i * k + j) (by omega)
    rw [if_neg (by omega), h3 i j hn hj] at e
    obtain ⟨q1, q2⟩ := Array.getElem?_eq_some_iff.1 e
    show c'[i * k + j]! = f i j
    rw [getElem!_pos c' _ q1, q2]

set_option maxRecDepth 100000 in
theorem maps_clone (v : Value) (l : List Ent) (w : World) (h : Seg w v l) (hl : l.length ≤ 1000000) :
    Calls Try.prog 71 #[v] w fun e w' => ∃ v', e = .returned v' ∧ Own w' 56 3 l.length v' (ents l) ∧ Fr (fun _ => False) w w' ∧ ∀ k, Of v' k → w.heap.size ≤ k := by
  obtain ⟨i0, hif, hz0, hz1, hz2⟩ := info_parts info_map
  rcases h with ⟨rfl, rfl⟩ | ⟨b, o, cap, f, rfl, h1, h2, h3, h4⟩
  · have hn := Lib.run_eql_slice_nil (P := Try.prog) w 63 56 none 0 0 0 0 Try.underlying63
    go_enter Try.func71, Try.ntmps71
    go_wp2_with fail
    go_ret
    exact ⟨_, rfl, Own.nil _ _ _, Fr.refl _ _, fun k hk => by simp [Of, Value.ownBlock] at hk⟩
  · have hn := Lib.run_eql_slice_nil (P := Try.prog) w 63 56 (some ⟨b, o * 3, none⟩) l.length cap 0 0 Try.underlying63
    have hadd : ∀ j, (⟨b, o * 3, none⟩ : Addr).add j = ⟨b, o * 3 + j, none⟩ := fun j => by unfold Addr.add; split <;> simp_all
    have O1 : Own (w.alloc (.cells #[] 56)) 56 3 0 (.slice (some ⟨w.heap.size, 0, none⟩) 0 0) [] := Own.lit (w := w) #[] 56 3 0 (by unfold maxLen; omega) rfl
    have R1 : ∀ j u, (ents l)[j]? = some u → (w.alloc (.cells #[] 56)).cell? ((⟨b, o * 3, none⟩ : Addr).add j) = some u := by
      intro j u hj
      have hjl : j < (ents l).length := (List.getElem?_eq_some_iff.1 hj).1
      rw [ents_len] at hjl
      have hq : j / 3 < l.length := by omega
      have e : j = j / 3 * 3 + j % 3 := by omega
      have g := ents_get l (j / 3) (j % 3) hq (Nat.mod_lt _ (by omega))
      rw [← e, hj] at g
      rw [hadd, show o * 3 + j = (o + j / 3) * 3 + j % 3 by omega, (h3.alloc _).cell (by omega) (Nat.mod_lt _ (by omega)), h4 _ hq _ (Nat.mod_lt _ (by omega))]
      exact g.symm
    clear h1 h2 h3 h4
    go_enter Try.func71, Try.ntmps71
    go_wp2_with (at_builtin; refine wpList_append_fresh rfl _ _ 63 rfl 56 i0 _ 3 24 Try.underlying63 hif hz0 hz1 hz2 rfl (by decide) _ 0 [] rfl O1 ⟨b, o * 3, none⟩ l.length cap (ents l) rfl (ents_len l) R1 (ents_one l) (by unfold maxLen; omega) (by omega) ?_; intro v' w' O2 F2 hv2; have HO := Lib.hid O2; have HF := Lib.hid F2; have HV := Lib.hid hv2; clear O2 F2 hv2)
    go_ret
    refine ⟨_, rfl, ?_, ?_, fun k hk => ?_⟩
    · have o := HO.out
      rw [Nat.zero_add, List.nil_append] at o
      exact o
    · exact ((Fr.refl (fun _ => False) w).alloc _).step HF.out (fun k hk e => by have e' : some w.heap.size = some k := e; simp at e'; omega)
    · rcases HV.out k hk with h | h
      · have e' : some w.heap.size = some k := h
        simp at e'; omega
      · simp at h; omega

theorem zero_map (w : World) : (zeroValue 56).run Try.prog w = .ok (.agg #[.int .i64 0, .int .i64 0, .int .i64 0]) w := by kernel_rfl

theorem Rec.set3 {w : World} {b n : Nat} {f : Nat → Nat → Value} {t : TypeId} (h : Rec w b n 3 f t) (r : Nat) (x : Ent) :
    Rec (((w.setCell ⟨b, r * 3, none⟩ (.int .i64 x.p)).setCell ⟨b, r * 3 + 1, none⟩ (.int .i64 x.at_)).setCell ⟨b, r * 3 + 2, none⟩ (.int .i64 x.page)) b n 3 (fun i j => if i = r then x.cell j else f i j) t := by
  refine (((h.set (i := r) (j := 0) (by decide) (.int .i64 x.p)).set (i := r) (j := 1) (by decide) (.int .i64 x.at_)).set (i := r) (j := 2) (by decide) (.int .i64 x.page)).congr (fun i j _ hj => ?_)
  by_cases e : i = r
  · subst e
    match j, hj with
    | 0, _ => simp [Ent.cell]
    | 1, _ => simp [Ent.cell]
    | 2, _ => simp [Ent.cell]
  · simp [e]

/-- the state of DeleteFunc's loop: rows below i are what stays of the first j, rows from j on are as they were -/
def DelAt (w wr : World) (b o cap : Nat) (l : List Ent) (p : Ent → Bool) (i j : Nat) : Prop :=
  Fr (fun k => k = b) w wr ∧ ∃ f, Rec wr b (o + cap) 3 f 56 ∧ (∀ r, (h : r < l.length) → j ≤ r → ∀ q, q < 3 → f (o + r) q = l[r].cell q) ∧ i = ((l.take j).filter (fun x => !p x)).length ∧ ∀ r x, ((l.take j).filter (fun x => !p x))[r]? = some x → ∀ q, q < 3 → f (o + r) q = x.cell q

theorem filter_take_succ (p : Ent → Bool) (l : List Ent) (j : Nat) (h : j < l.length) : (l.take (j + 1)).filter p = (l.take j).filter p ++ if p l[j] = true then [l[j]] else [] := by
  rw [List.take_succ_eq_append_getElem h, List.filter_append]
  congr 1
  by_cases e : p l[j] = true <;> simp [e]

section
variable (g : FuncId) (cap : Array Value) (p : Ent → Bool) (v : Value) (l : List Ent) (w : World)
  (hg : ∀ args w, (callFunc g args).run Try.prog w = .ok (.enter g args) w)
  (hp : ∀ W x, Fr (fun k => At v k) w W → Calls Try.prog g (#[Ent.v x] ++ cap) W fun e w' => e = .returned (.bool (p x)) ∧ Fr (fun _ => False) W w')
  (h : Seg w v l) (hl : l.length ≤ 1000000)
include hg hp h hl
set_option maxRecDepth 100000 in
theorem maps_delete :
    Calls Try.prog 70 #[v, .func (.func g) #[] cap] w fun e w' => ∃ v', e = .returned v' ∧ Seg w' v' (l.filter (fun x => !p x)) ∧ Fr (fun k => At v k) w w' ∧ (∀ k, At v' k → At v k) ∧ ((v = .slice none 0 0 ∧ v' = v) ∨ ∃ a n n' cap, v = .slice a n cap ∧ v' = .slice a n' cap) := by
  by_cases hall : ∀ y ∈ l, p y = false
  · have HI := Lib.hid (maps_index_no g cap p v l w hg (fun W x f => hp W x (f.mono (fun k _ => False.elim))) h hl hall)
    have e : l.filter (fun x => !p x) = l := List.filter_eq_self.2 (fun y hy => by simp [hall y hy])
    rw [e]
    have HH := Lib.hid h
    clear h hp hall e
    go_enter Try.func70, Try.ntmps70
    go_wp2_with (go_at_call 74; with_reducible refine HI.out.mono ?_; rintro e w' ⟨rfl, f⟩; have HF := Lib.hid f; clear f)
    go_ret
    refine ⟨_, rfl, HH.out.fr HF.out (fun _ _ => id), HF.out.mono (fun k _ => False.elim), fun _ => id, ?_⟩
    obtain ⟨a, c, e, _⟩ := HH.out.form
    exact .inr ⟨a, _, _, c, e, e⟩
  · obtain ⟨q, x, hq, hx, hm⟩ : ∃ q x, l[q]? = some x ∧ p x = true ∧ ∀ j, (h : j < q) → ∀ y, l[j]? = some y → p y = false := by
      have hex : ∃ y ∈ l, p y = true := by
        apply Classical.byContradiction
        intro hn
        exact hall (fun y hy => by
          cases e : p y with
          | false => rfl
          | true => exact absurd ⟨y, hy, e⟩ hn)
      have hlt : l.findIdx p < l.length := List.findIdx_lt_length_of_exists hex
      refine ⟨l.findIdx p, l[l.findIdx p], List.getElem?_eq_getElem hlt, List.findIdx_getElem, fun j hj y hy => ?_⟩
      obtain ⟨h1, rfl⟩ := List.getElem?_eq_some_iff.1 hy
      simpa using List.not_of_lt_findIdx hj
    have HI := Lib.hid (maps_index_yes g cap p v l w hg (fun W x f => hp W x (f.mono (fun k _ => False.elim))) h hl q x hq hx hm)
    have hql : q < l.length := (List.getElem?_eq_some_iff.1 hq).1
    have hlen : (l.length : Int) ≤ 1000000 := by omega
    have hq0 : ((q : Int) == -1) = false := beq_eq_false_iff_ne.2 (by omega)
    have hft : (l.take q).filter (fun x => !p x) = l.take q := List.filter_eq_self.2 (fun y hy => by
      obtain ⟨j, hj, rfl⟩ := List.getElem_of_mem hy
      simp only [List.length_take] at hj
      rw [List.getElem_take]
      rw [hm j (by omega) _ (List.getElem?_eq_getElem (by omega))]; rfl)
    have hft2 : (l.take (q + 1)).filter (fun x => !p x) = l.take q := by
      rw [filter_take_succ _ _ _ hql, hft]
      have : l[q] = x := by rw [List.getElem?_eq_getElem hql] at hq; exact Option.some.inj hq
      simp [this, hx]
    rcases h with ⟨rfl, rfl⟩ | ⟨b, o, c, f, rfl, h1, h2, h3, h4⟩
    · simp at hql
    have hAt : ∀ k, At (.slice (some ⟨b, o * 3, none⟩) l.length c) k ↔ k = b := fun k => ⟨fun ⟨_, _, _, e⟩ => by simp only [Value.slice.injEq, Option.some.injEq, Addr.mk.injEq] at e; exact e.1.1.symm, fun e => ⟨o * 3, l.length, c, by rw [e]⟩⟩
    have start : ∀ w', Fr (fun _ => False) w w' → DelAt w w' b o c l p q (q + 1) := fun w' F => by
      refine ⟨F.mono (fun k _ => False.elim), f, h3.fr F id, fun r hr _ => h4 r hr, by rw [hft2, List.length_take]; omega, fun r y hy => ?_⟩
      rw [hft2, List.getElem?_take] at hy
      split at hy
      · obtain ⟨d1, rfl⟩ := List.getElem?_eq_some_iff.1 hy
        exact h4 r d1
      · simp at hy
    have HST := Lib.hid start
    have HP : Hid (∀ W x, Fr (fun k => k = b) w W → Calls Try.prog g (#[Ent.v x] ++ cap) W fun e w' => e = .returned (.bool (p x)) ∧ Fr (fun _ => False) W w') := fun W x F => hp W x (F.mono (fun k _ e => (hAt k).2 e))
    have HA := Lib.hid hAt
    have hb := h3.lt
    have hlc : (l.length : Int) ≤ c := by omega
    unfold maxLen at h2
    have hc1 : (c : Int) ≤ 9223372036854775807 := by omega
    clear hp hq hx hm hall hft hft2 h3 h4 start hAt
    go_enter Try.func70, Try.ntmps70
    go_wp2_with (go_at_call 74; with_reducible refine HI.out.mono ?_; rintro e w' ⟨rfl, f⟩; have HF := Lib.hid f; clear f)
    go_loopw [5, 6, 7] (fun t5 t6 _ wr => ∃ i j : Nat, t5 = .int .i64 i ∧ t6 = .int .i64 j ∧ i < j ∧ j ≤ l.length ∧ DelAt w wr b o c l p i j) (fun _ t6 _ _ => (l.length - intOf t6).toNat)
    case atStart => exact ⟨q, q + 1, rfl, by go_num, by omega, by omega, HST.out _ HF.out⟩
    case round =>
      obtain ⟨i, j, rfl, rfl, hij, hj, hD⟩ := hrel
      have HD := Lib.hid hD
      obtain ⟨F, f, R, r1, r2, r3⟩ := hD
      by_cases hjl : j < l.length
      · have hjl' : (j : Int) < l.length := by omega
        have hil' : (i : Int) < l.length := by omega
        have ea : o * 3 + j * 3 = (o + j) * 3 := by omega
        have eb : o * 3 + i * 3 = (o + i) * 3 := by omega
        have g0 : wr.cell? ⟨b, o * 3 + j * 3, none⟩ = some (.int .i64 l[j].p) := by rw [ea]; have := R.cell (i := o + j) (j := 0) (by omega) (by omega); rw [r1 j hjl (by omega) 0 (by omega)] at this; exact this
        have g1 : wr.cell? ⟨b, o * 3 + j * 3 + 1, none⟩ = some (.int .i64 l[j].at_) := by rw [ea]; have := R.cell (i := o + j) (j := 1) (by omega) (by omega); rw [r1 j hjl (by omega) 1 (by omega)] at this; exact this
        have g2 : wr.cell? ⟨b, o * 3 + j * 3 + 2, none⟩ = some (.int .i64 l[j].page) := by rw [ea]; have := R.cell (i := o + j) (j := 2) (by omega) (by omega); rw [r1 j hjl (by omega) 2 (by omega)] at this; exact this
        have k0 : wr.cell? ⟨b, o * 3 + i * 3, none⟩ = some (f (o + i) 0) := by rw [eb]; exact R.cell (i := o + i) (j := 0) (by omega) (by omega)
        have k1 : wr.cell? ⟨b, o * 3 + i * 3 + 1, none⟩ = some (f (o + i) 1) := by rw [eb]; exact R.cell (i := o + i) (j := 1) (by omega) (by omega)
        have k2 : wr.cell? ⟨b, o * 3 + i * 3 + 2, none⟩ = some (f (o + i) 2) := by rw [eb]; exact R.cell (i := o + i) (j := 2) (by omega) (by omega)
        have fr := R.frozen
        have lt := R.lt
        have NEW : Hid (∀ w', Fr (fun _ => False) (wr.alloc (.cells #[.int .i64 l[j].p, .int .i64 l[j].at_, .int .i64 l[j].page] 56)) w' →
            w'.cell? ⟨wr.heap.size, 0, none⟩ = some (.int .i64 l[j].p) ∧ w'.cell? ⟨wr.heap.size, 1, none⟩ = some (.int .i64 l[j].at_) ∧ w'.cell? ⟨wr.heap.size, 2, none⟩ = some (.int .i64 l[j].page) ∧
            w'.cell? ⟨b, o * 3 + i * 3, none⟩ = some (f (o + i) 0) ∧ w'.cell? ⟨b, o * 3 + i * 3 + 1, none⟩ = some (f (o + i) 1) ∧ w'.cell? ⟨b, o * 3 + i * 3 + 2, none⟩ = some (f (o + i) 2) ∧
            (∀ m, w'.frozen? ⟨b, m, none⟩ = false) ∧ b < w'.heap.size) := fun w' F2 => by
          have N := (Blk.at_new (w := wr) (b := wr.heap.size) (c := #[.int .i64 l[j].p, .int .i64 l[j].at_, .int .i64 l[j].page]) (t := 56) rfl).fr F2 id
          have R2 := (R.alloc (.cells #[.int .i64 l[j].p, .int .i64 l[j].at_, .int .i64 l[j].page] 56)).fr F2 id
          exact ⟨N.cell 0, N.cell 1, N.cell 2, by rw [eb]; exact R2.cell (j := 0) (by omega) (by omega), by rw [eb]; exact R2.cell (j := 1) (by omega) (by omega), by rw [eb]; exact R2.cell (j := 2) (by omega) (by omega), R2.frozen, R2.lt⟩
        have hcall := HP.out (wr.alloc (.cells #[.int .i64 l[j].p, .int .i64 l[j].at_, .int .i64 l[j].page] 56)) l[j] (F.alloc _)
        unfold Ent.v at hcall
        have fr := R.frozen
        have lt := R.lt
        clear R r1 r2 r3 F k0 k1 k2
        cases hpx : p l[j] with
        | false =>
          rw [hpx] at hcall
          have HPX := Lib.hid hpx
          have HCA := Lib.hid hcall
          clear hcall hpx ea eb
          go_wp2_with (refine HCA.out.mono ?_; rintro e w' ⟨rfl, F2⟩; obtain ⟨n0, n1, n2, k0, k1, k2, fr2, lt2⟩ := NEW.out _ F2; have HF2 := Lib.hid F2; clear F2)
          obtain ⟨F, f, R, r1, r2, r3⟩ := HD.out
          have e3 : o * 3 + i * 3 = (o + i) * 3 := by omega
          rw [e3]
          refine ⟨⟨i + 1, j + 1, by go_num, by go_num, by omega, by omega, ?_, _, ((R.alloc _).fr HF2.out id).set3 (o + i) l[j], fun r hr hjr q hq => ?_, ?_, fun r x hx q hq => ?_⟩, by simp [intOf]; omega⟩
          · have F3 := (F.alloc (.cells #[.int .i64 l[j].p, .int .i64 l[j].at_, .int .i64 l[j].page] 56)).trans (HF2.out.mono (fun k _ => False.elim))
            exact ((F3.setCell (fun _ => rfl) _).setCell (fun _ => rfl) _).setCell (fun _ => rfl) _
          · rw [if_neg (by omega)]
            exact r1 r hr (by omega) q hq
          · rw [filter_take_succ _ _ _ hjl, HPX.out, List.length_append, ← r2]; simp
          · rw [filter_take_succ _ _ _ hjl, HPX.out] at hx
            simp only [Bool.not_false, if_true] at hx
            by_cases hri : r < i
            · rw [List.getElem?_append_left (by omega)] at hx
              rw [if_neg (by omega)]
              exact r3 r x hx q hq
            · rw [List.getElem?_append_right (by omega)] at hx
              have hr0 : r - ((l.take j).filter (fun x => !p x)).length = 0 := by
                have := (List.getElem?_eq_some_iff.1 hx).1
                simp at this
                omega
              rw [hr0] at hx
              simp at hx
              rw [if_pos (by omega), ← hx]
        | true =>
          rw [hpx] at hcall
          have HPX := Lib.hid hpx
          have HCA := Lib.hid hcall
          clear hcall hpx ea eb
          go_wp2_with (refine HCA.out.mono ?_; rintro e w' ⟨rfl, F2⟩; have HF2 := Lib.hid F2; clear F2)
          obtain ⟨F, f, R, r1, r2, r3⟩ := HD.out
          refine ⟨⟨i, j + 1, rfl, by go_num, by omega, by omega, (F.alloc _).trans (HF2.out.mono (fun k _ => False.elim)), f, (R.alloc _).fr HF2.out id, fun r hr hjr => r1 r hr (by omega), ?_, ?_⟩, by simp [intOf]; omega⟩
          · rw [filter_take_succ _ _ _ hjl, HPX.out, r2]; simp
          · rw [filter_take_succ _ _ _ hjl, HPX.out]; simpa using r3
      · have hjl' : ¬ (j : Int) < l.length := by omega
        obtain rfl : j = l.length := by omega
        have r2' := r2
        rw [List.take_length] at r2'
        have b1 : (i : Int) ≤ c := by omega
        have b2 : (0 : Int) ≤ i := by omega
        have b3 : (i : Int) ≤ l.length := by omega
        have ec : ∀ m, o * 3 + i * 3 + m = (o + i + m / 3) * 3 + m % 3 := fun m => by omega
        have hcl := fun ty => run_clear_k (P := Try.prog) wr 63 56 ty _ 3 Try.underlying63 zero_map rfl (by simp [Value.cells, Value.oneCell']) (by decide) b (o * 3 + i * 3) (l.length - i) (c - i) (by omega) (fun m hm => by rw [ec, R.cell (by omega) (by omega)]; rfl) (fun m hm => R.frozen _)
        have HCL := Lib.hid r2'
        have HR := Lib.hid R
        clear R r1 r2 r2' r3 F ec
        go_wp2_with fail
        go_ret
        obtain ⟨F, f, R, r1, r2, r3⟩ := HD.out
        have e3 : o * 3 + i * 3 = (o + i) * 3 := by omega
        rw [e3]
        obtain ⟨f', R', hf'⟩ := R.setCells (o + i) (Builtin.zeroCells #[Value.int IntKind.i64 0, Value.int IntKind.i64 0, Value.int IntKind.i64 0] (l.length - i)).toList
        rw [List.take_length] at r2 r3
        refine ⟨.slice (some ⟨b, o * 3, none⟩) i c, rfl, .inr ⟨b, o, c, f', by rw [← r2], by rw [← r2]; omega, by unfold maxLen; omega, R', fun r hr q hq => ?_⟩, (F.trans (setCells_fr _ _ _ _)).mono (fun k _ e => (HA.out k).2 e), fun k hk => ?_, by first | exact .inr ⟨_, _, _, _, rfl, rfl⟩ | (simp only [Value.slice.injEq]; exact .inr ⟨_, _, _, _, ⟨rfl, rfl, rfl⟩, rfl⟩) | exact ⟨_, _, _, _, ⟨rfl, rfl, rfl⟩, rfl⟩ | (simp)⟩
        · rw [hf' _ _ (by omega) (by omega) hq]
          exact r3 r _ (List.getElem?_eq_getElem hr) q hq
        · obtain ⟨q1, q2, q3, e⟩ := hk
          simp only [Value.slice.injEq, Option.some.injEq, Addr.mk.injEq] at e
          exact (HA.out k).2 e.1.1.symm
end

theorem Seg.own {w : World} {b n cap : Nat} {l : List Ent} (h : Seg w (.slice (some ⟨b, 0, none⟩) n cap) l) : Own w 56 3 l.length (.slice (some ⟨b, 0, none⟩) n cap) (ents l) ∧ n = l.length := by
  rcases h with ⟨h, _⟩ | ⟨b', o, cap', f, h, h1, h2, ⟨c, d1, d2, d3⟩, h4⟩
  · simp at h
  · simp only [Value.slice.injEq, Option.some.injEq, Addr.mk.injEq] at h
    obtain ⟨⟨rfl, ho, _⟩, rfl, rfl⟩ := h
    obtain rfl : o = 0 := by omega
    refine ⟨⟨ents_len l, .inr ⟨b, cap, c, rfl, Nat.zero_le _, d1, h1, by omega, by omega, ?_⟩⟩, rfl⟩
    apply List.ext_getElem?
    intro j
    rw [List.getElem?_take]
    by_cases hj : j < l.length * 3
    · have e : j = j / 3 * 3 + j % 3 := by omega
      rw [if_pos hj, Array.getElem?_toList, e, d3 (j / 3) (j % 3) (by omega) (Nat.mod_lt _ (by omega)), ents_get l _ _ (by omega) (Nat.mod_lt _ (by omega))]
      have := h4 (j / 3) (by omega) (j % 3) (Nat.mod_lt _ (by omega))
      rw [Nat.zero_add] at this
      rw [this]
    · rw [if_neg hj, List.getElem?_eq_none (by rw [ents_len]; omega)]

theorem Seg.drop {w : World} {b off n cap : Nat} {l : List Ent} (h : Seg w (.slice (some ⟨b, off, none⟩) n cap) l) (d : Nat) (hd : d ≤ l.length) : Seg w (.slice (some ⟨b, off + d * 3, none⟩) (n - d) (cap - d)) (l.drop d) := by
  rcases h with ⟨h, _⟩ | ⟨b', o, cap', f, h, h1, h2, h3, h4⟩
  · simp at h
  · simp only [Value.slice.injEq, Option.some.injEq, Addr.mk.injEq] at h
    obtain ⟨⟨rfl, rfl, _⟩, rfl, rfl⟩ := h
    refine .inr ⟨b, o + d, cap - d, f, by rw [List.length_drop]; congr 3; omega, by rw [List.length_drop]; omega, by omega, by rw [show o + d + (cap - d) = o + cap by omega]; exact h3, fun j hj i hi => ?_⟩
    rw [List.length_drop] at hj
    rw [Nat.add_assoc, h4 (d + j) (by omega) i hi, List.getElem_drop]

theorem ents_append (a b : List Ent) : ents (a ++ b) = ents a ++ ents b := by simp [ents]
theorem Fr.cellAt {w w' : World} (f : Fr (fun _ => False) w w') {b o : Nat} {u : Value} (hb : b < w.heap.size) (h : w.cell? ⟨b, o, none⟩ = some u) : w'.cell? ⟨b, o, none⟩ = some u := (World.cell?_of_block (f.block b hb id)).trans h
end Go.Proofs.Ytoifefcbegdjdaa
