import Derived.Test.YtbjfgcabomgdbaaHaltF
import Derived.RegionTactic
namespace Go.Proofs.Ytbjfgcabomgdbaa
open Go.RowKit

def fnVals (g : FuncId) (bs i : Nat) (bd bk : Nat → Nat) : List Value := (deedFns g bs i bd bk).map fun p => .func (.func p.1) #[] p.2

/-- how many of the first i end well, and what the first stop is -/
def wantN (out : Nat → Stp) (m i : Nat) : Nat := if firstStop out i 0 < i then firstStop out i 0 else m
def firstS (out : Nat → Stp) (i : Nat) : Stp := if firstStop out i 0 < i then out (firstStop out i 0) else .ok

theorem firstStop_le (out : Nat → Stp) (n i : Nat) : firstStop out n i ≤ i + n := by
  induction n generalizing i with
  | zero => exact Nat.le_refl _
  | succ n ih => rw [firstStop]; split; · omega
                 · have := ih (i + 1); omega

theorem firstStop_succ (out : Nat → Stp) (n i : Nat) : firstStop out (n + 1) i = if firstStop out n i < i + n then firstStop out n i else if (out (i + n)).is then i + n else i + n + 1 := by
  induction n generalizing i with
  | zero => simp [firstStop]
  | succ n ih =>
    rw [firstStop, ih (i + 1)]
    rw [show firstStop out (n + 1) i = if (out i).is then i else firstStop out n (i + 1) from rfl]
    by_cases h : (out i).is
    · simp [h]
    · simp [h, Nat.add_assoc, Nat.add_comm 1 n]

theorem want_quiet {out : Nat → Stp} {m i : Nat} (h : (out i).is = false) : wantN out m (i + 1) = wantN out m i ∧ firstS out (i + 1) = firstS out i := by
  have e := firstStop_succ out i 0
  simp only [Nat.zero_add, h, Bool.false_eq_true, if_false] at e
  unfold wantN firstS
  rw [e]
  by_cases h1 : firstStop out i 0 < i
  · rw [if_pos h1, if_pos h1, if_pos h1, if_pos (by omega), if_pos (by omega)]; exact ⟨rfl, rfl⟩
  · rw [if_neg h1, if_neg h1, if_neg h1, if_neg (by omega), if_neg (by omega)]; exact ⟨rfl, rfl⟩

theorem want_late {out : Nat → Stp} {m i : Nat} (him : i < m) (h : wantN out m i ≤ i) : wantN out m (i + 1) = wantN out m i ∧ firstS out (i + 1) = firstS out i := by
  have e := firstStop_succ out i 0
  simp only [Nat.zero_add] at e
  have h1 : firstStop out i 0 < i := by
    unfold wantN at h
    split at h
    · assumption
    · omega
  unfold wantN firstS
  rw [e, if_pos h1, if_pos h1, if_pos h1, if_pos (by omega), if_pos (by omega)]
  exact ⟨rfl, rfl⟩

theorem want_first {out : Nat → Stp} {m i : Nat} (h : (out i).is = true) (hw : i < wantN out m i) : wantN out m (i + 1) = i ∧ firstS out (i + 1) = out i := by
  have e := firstStop_succ out i 0
  simp only [Nat.zero_add, h, if_true] at e
  have h1 : ¬ firstStop out i 0 < i := by
    unfold wantN at hw
    split at hw <;> omega
  rw [if_neg h1] at e
  unfold wantN firstS
  rw [e, if_pos (by omega), if_pos (by omega)]
  exact ⟨rfl, rfl⟩

theorem want_end (out : Nat → Stp) (m : Nat) : wantN out m m = firstStop out m 0 ∧ firstS out m = (if firstStop out m 0 < m then out (firstStop out m 0) else .ok) := by
  have := firstStop_le out m 0
  unfold wantN firstS
  refine ⟨?_, rfl⟩
  split <;> omega

structure RowsSt (g : FuncId) (w0 : World) (bs b6 : Nat) (f : Stp) (K A : Nat → Int) (i : Nat) (bd bk : Nat → Nat) (v4 : Value) (w : World) : Prop where
  seen : Blk w bs #[.slice none 0 0] 27
  first : Blk w b6 #[.int .i64 f.why, .int .i64 f.at] 23
  fns : Own w 1 1 i v4 (fnVals g bs i bd bk)
  blks : ∀ j, j < i → Blk w (bd j) #[.int .i64 (K j), .int .i64 (A j)] 35 ∧ Blk w (bk j) #[.int .i64 j] 3
  fr : Fr (fun _ => False) w0 w

theorem RowsSt.go {g : FuncId} {w0 : World} {bs b6 : Nat} {f : Stp} {K A : Nat → Int} {i : Nat} {bd bk : Nat → Nat} {v4 : Value} {w w' : World} (h : RowsSt g w0 bs b6 f K A i bd bk v4 w) (gf : Fr (fun _ => False) w w') : RowsSt g w0 bs b6 f K A i bd bk v4 w' :=
  ⟨h.seen.fr gf id, h.first.fr gf id, h.fns.fr gf (fun _ _ => id), fun j hj => ⟨(h.blks j hj).1.fr gf id, (h.blks j hj).2.fr gf id⟩, h.fr.trans gf⟩

theorem fnVals_succ (g : FuncId) (bs i : Nat) (bd bk : Nat → Nat) (d k : Nat) : fnVals g bs (i + 1) (fun j => if j = i then d else bd j) (fun j => if j = i then k else bk j) =
    fnVals g bs i bd bk ++ [.func (.func g) #[] #[.pointer (some ⟨d, 0, none⟩), .pointer (some ⟨k, 0, none⟩), .pointer (some ⟨bs, 0, none⟩)]] := by
  simp only [fnVals, deedFns, List.range_succ, List.map_append, List.map_map, List.map_cons, List.map_nil]
  congr 1
  · apply List.map_congr_left
    intro j hj
    have : j ≠ i := by have := List.mem_range.1 hj; omega
    simp [this]

theorem RowsSt.push {g : FuncId} {w0 : World} {bs b6 : Nat} {f : Stp} {K A : Nat → Int} {i : Nat} {bd bk : Nat → Nat} {v4 v' : Value} {w w' : World} (h : RowsSt g w0 bs b6 f K A i bd bk v4 w) {d k : Nat}
    (hd : Blk w d #[.int .i64 (K i), .int .i64 (A i)] 35) (hk : Blk w k #[.int .i64 i] 3) (hn : ∀ x, Of v4 x → w0.heap.size ≤ x)
    (ho : Own w' 1 1 (i + 1) v' (fnVals g bs i bd bk ++ [.func (.func g) #[] #[.pointer (some ⟨d, 0, none⟩), .pointer (some ⟨k, 0, none⟩), .pointer (some ⟨bs, 0, none⟩)]])) (gf : Fr (Of v4) w w') :
    RowsSt g w0 bs b6 f K A (i + 1) (fun j => if j = i then d else bd j) (fun j => if j = i then k else bk j) v' w' where
  seen := h.seen.fr gf (h.fns.ne h.seen (by decide))
  first := h.first.fr gf (h.fns.ne h.first (by decide))
  fns := by rw [fnVals_succ]; exact ho
  blks := by
    intro j hj
    by_cases e : j = i
    · subst e
      simp only [if_true]
      exact ⟨hd.fr gf (h.fns.ne hd (by decide)), hk.fr gf (h.fns.ne hk (by decide))⟩
    · have := h.blks j (by omega)
      simp only [e, if_false]
      exact ⟨this.1.fr gf (h.fns.ne this.1 (by decide)), this.2.fr gf (h.fns.ne this.2 (by decide))⟩
  fr := h.fr.step gf (fun x hx hof => absurd (hn x hof) (by omega))

theorem RowsSt.setFirst {g : FuncId} {w0 : World} {bs b6 : Nat} {f : Stp} {K A : Nat → Int} {i : Nat} {bd bk : Nat → Nat} {v4 : Value} {w : World} (h : RowsSt g w0 bs b6 f K A i bd bk v4 w) (hb : w0.heap.size ≤ b6) (s : Stp) :
    RowsSt g w0 bs b6 s K A i bd bk v4 ((w.setCell ⟨b6, 0, none⟩ (.int .i64 s.why)).setCell ⟨b6, 1, none⟩ (.int .i64 s.at)) :=
  have gf : Fr (fun k => k = b6) w ((w.setCell ⟨b6, 0, none⟩ (.int .i64 s.why)).setCell ⟨b6, 1, none⟩ (.int .i64 s.at)) := ((Fr.refl (fun k => k = b6) w).setCell (p := ⟨b6, 0, none⟩) (fun _ => rfl) _).setCell (p := ⟨b6, 1, none⟩) (fun _ => rfl) _
  ⟨h.seen.fr gf (h.seen.ne h.first (.inr (by decide))), ((h.first.set 0 _).set 1 _), h.fns.fr gf (fun k hk e => h.fns.ne h.first (by decide) (e ▸ hk)), fun j hj => ⟨(h.blks j hj).1.fr gf ((h.blks j hj).1.ne h.first (.inr (by decide))), (h.blks j hj).2.fr gf ((h.blks j hj).2.ne h.first (.inr (by decide)))⟩,
    h.fr.step gf (fun x hx e => by omega)⟩

def RowsRel (g : FuncId) (w0 : World) (bs b6 m : Nat) (K A : Nat → Int) (t4 t5 t7 : Value) (w : World) : Prop :=
  ∃ (i : Nat) (bd bk : Nat → Nat), i ≤ m ∧ t7 = .int .i64 i ∧ t5 = .int .i64 (wantN (fun i => outD (K i) (A i)) m i) ∧ RowsSt g w0 bs b6 (firstS (fun i => outD (K i) (A i)) i) K A i bd bk t4 w ∧ (∀ x, Of t4 x → w0.heap.size ≤ x) ∧ (∀ j, j < i → w0.heap.size ≤ bd j ∧ w0.heap.size ≤ bk j)

theorem nums_cells {w : World} {e : TypeId} {d cx : Nat} {ax : Option Addr} (h : Own w e 1 d (.slice ax d cx) (nums d)) :
    d = 0 ∨ ∃ g, ax = some ⟨g, 0, none⟩ ∧ g < w.heap.size ∧ ∀ j, j < d → w.cell? ⟨g, j, none⟩ = some (.int .i64 j) := by
  rcases h.cases with ⟨_, rfl, _⟩ | ⟨g, cap, hv, hg, _, _, hc, _⟩
  · exact .inl rfl
  · simp at hv
    exact .inr ⟨g, hv.1, hg, fun j hj => by rw [hc j (by omega), nums_get d j hj]⟩

theorem rows_run {g : FuncId} (hfn : DeedFn g) {w0 w : World} {bs b6 m : Nat} {f : Stp} {K A : Nat → Int} {bd bk : Nat → Nat} {v4 : Value} (hm : m ≤ 12) (st : RowsSt g w0 bs b6 f K A m bd bk v4 w) (hn : ∀ x, Of v4 x → w0.heap.size ≤ x) (h6 : bs ≠ b6)
    (hbd : ∀ j, j < m → w0.heap.size ≤ bd j ∧ w0.heap.size ≤ bk j) :
    Calls Try.prog 17 #[v4] w fun e w' => e = .returned (.tuple #[.int .i64 (firstStop (fun i => outD (K i) (A i)) m 0), .agg #[.int .i64 (firstS (fun i => outD (K i) (A i)) m).why, .int .i64 (firstS (fun i => outD (K i) (A i)) m).at]]) ∧
      Blk w' b6 #[.int .i64 f.why, .int .i64 f.at] 23 ∧ Fr (fun k => k = bs) w0 w' ∧ ∃ v, Blk w' bs #[v] 27 ∧ Own w' 3 1 (min (firstStop (fun i => outD (K i) (A i)) m 0 + 1) m) v (nums (min (firstStop (fun i => outD (K i) (A i)) m 0 + 1) m)) ∧ ∀ x, Of v x → w0.heap.size ≤ x := by
  have hwe := want_end (fun i => outD (K i) (A i)) m
  rcases st.fns.cases with ⟨rfl, rfl, _⟩ | ⟨gb, cap, rfl, hg, hmc, _, hcell, _⟩
  · refine (run_nil w).mono ?_
    rintro e w' ⟨rfl, hf⟩
    have st' := st.go hf
    exact ⟨by simp [firstS, firstStop], st'.first, st'.fr.mono (fun _ _ h => h.elim), _, st'.seen, Own.nil _ _ _, fun x hx => by simp [Of, Value.ownBlock] at hx⟩
  · have hlen : (deedFns g bs m bd bk).length = m := by simp [deedFns]
    have hne : ∀ x c t, Blk w x c t → t ≠ 1 → x ≠ gb := fun x c t hx ht e => st.fns.ne hx ht (by rw [e]; rfl)
    refine (run_of (deedFns g bs m bd bk) _ _ (seen_deeds hfn bs w.heap.size m (by omega) bd bk K A) (fun x => x = bs ∨ Of (.slice none 0 0) x ∨ ∃ j, j < m ∧ (x = bd j ∨ x = bk j)) w gb m cap hlen (by omega)
      ⟨.slice none 0 0, st.seen, Own.nil _ _ _, st.blks, fun x => Iff.rfl, fun x hx => by simp [Of, Value.ownBlock] at hx, fun j hj => ⟨(st.blks j hj).1.lt, (st.blks j hj).2.lt⟩, st.seen.lt, Nat.le_refl _⟩ hg ?_ ?_).mono ?_
    · rintro (h | h | ⟨j, hj, h | h⟩)
      · exact hne _ _ _ st.seen (by decide) h.symm
      · simp [Of, Value.ownBlock] at h
      · exact hne _ _ _ (st.blks j hj).1 (by decide) h.symm
      · exact hne _ _ _ (st.blks j hj).2 (by decide) h.symm
    · intro j p hp
      have hj : j < m := by
        have := (List.getElem?_eq_some_iff.1 hp).1
        omega
      rw [hcell j (by omega)]
      simp only [fnVals, List.getElem?_map, hp, Option.map_some]
    · rintro e w' ⟨f', F, s, rfl, rfl, rfl, ⟨v, h1, h2, _, _, hvn, _, _, _⟩, hF, hfr⟩
      refine ⟨?_, ?_, ?_, v, h1, h2, fun x hx => Nat.le_trans st.fr.size (hvn x hx)⟩
      · rw [hwe.2]
      · refine st.first.fr hfr ?_
        rintro (h | h | ⟨j, hj, h | h⟩)
        · exact h6 h.symm
        · simp [Of, Value.ownBlock] at h
        · exact (st.blks j hj).1.ne st.first (.inr (by decide)) h.symm
        · exact (st.blks j hj).2.ne st.first (.inr (by decide)) h.symm
      · refine (st.fr.mono (T := fun k => k = bs) (fun _ _ h => h.elim)).step hfr ?_
        rintro i hi (h | h | ⟨j, hj, h | h⟩)
        · exact h
        · simp [Of, Value.ownBlock] at h
        · have := (hbd j hj).1; omega
        · have := (hbd j hj).2; omega

set_option maxHeartbeats 1000000 in
set_option maxRecDepth 100000 in
theorem haltRows_walk (a : Option Addr) (len cap : Nat) (V : Nat → Nat → Value) (w : World) (s : IsSl [.int .i64, .int .i64] w a len cap V) :
    Calls Try.prog 4 #[.slice a len cap] w fun e w' => e = .returned (.bool true) ∧ Below w.heap.size w w' := by
  obtain ⟨hlc, hcm, hnil⟩ := s.cap
  obtain ⟨K, A, hKA⟩ : ∃ K A : Nat → Int, len = 0 ∨ ∃ b off, a = some ⟨b, off, none⟩ ∧ b < w.heap.size ∧ ∀ i, i < len → w.cell? ⟨b, off + i * 2, none⟩ = some (.int .i64 (K i)) ∧ w.cell? ⟨b, off + i * 2 + 1, none⟩ = some (.int .i64 (A i)) := by
    rcases s.cases with h | ⟨b, off, rfl, hb, _, hc⟩
    · exact ⟨fun _ => 0, fun _ => 0, .inl h⟩
    · obtain ⟨K, hK⟩ := ok_ints (k := .i64) (fun i hi => (hc i 0 _ hi rfl).2)
      obtain ⟨A, hA⟩ := ok_ints (k := .i64) (fun i hi => (hc i 1 _ hi rfl).2)
      refine ⟨K, A, .inr ⟨b, off, rfl, hb, fun i hi => ⟨?_, ?_⟩⟩⟩
      · have := (hc i 0 _ hi rfl).1; rw [(hK i hi).1] at this; exact this
      · have := (hc i 1 _ hi rfl).1; rw [(hA i hi).1] at this; exact this
  obtain ⟨i0, hif, hz0, hz1, hz2⟩ := info_parts info_func
  obtain ⟨m, hm⟩ : ∃ m, m = min len 12 := ⟨_, rfl⟩
  have hm0 : m ≤ len := by omega
  have hm1 : m ≤ 12 := by omega
  have hm2 : m < 12 → len ≤ m := by omega
  have hms : min (len : Int) 12 = (m : Int) := by omega
  have HK := Lib.hid hKA
  have HN := Lib.hid hnil
  have HM := Lib.hid hm
  clear hKA hnil s hm hms
  go_enter Try.func4, Try.ntmps4
  go_wp2_with fail
  all_goals
    go_loopw [4, 5, 7] (fun t4 t5 t7 wr => RowsRel 23 w w.heap.size (w.heap.size + 1) m K A t4 t5 t7 wr) (fun _ _ i _ => m - (intOf i).toNat)
    case atStart =>
      refine ⟨0, fun _ => 0, fun _ => 0, Nat.zero_le _, rfl, ?_, ⟨(Blk.new w _ _).alloc _, ?_, Own.nil _ _ _, fun j hj => absurd hj (Nat.not_lt_zero _), ((Fr.refl _ w).alloc _).alloc _⟩, fun x hx => by simp [Of, Value.ownBlock] at hx, fun j hj => absurd hj (Nat.not_lt_zero _)⟩
      · have := HM.out
        simp [wantN, firstStop]
        omega
      · have := Blk.new (w.alloc (.cells #[.slice none 0 0] 27)) #[.int .i64 0, .int .i64 0] 23
        rw [World.size_alloc] at this
        exact this
    case round =>
      obtain ⟨i, bd, bk, hi, rfl, rfl, st, hn4, hbd⟩ := hrel
      have HB := Lib.hid hbd
      clear hbd
      have hmf : ∀ (fn : Fn) (first cap : Array Value) (w : World), (Instr.makeFunc fn first cap).run Try.prog w = .ok (.func fn first cap) w := fun _ _ _ _ => rfl
      by_cases him : i < m
      · rcases HK.out with h | ⟨b, off, ha, hb, hc⟩
        · omega
        subst ha
        have c0 := (World.cell?_of_block (st.fr.block b hb id)).trans (hc i (by omega)).1
        have c1 := (World.cell?_of_block (st.fr.block b hb id)).trans (hc i (by omega)).2
        have hbw : b < wr.heap.size := Nat.lt_of_lt_of_le hb st.fr.size
        have hlt := Nat.lt_of_lt_of_le (st.seen.lt) (Nat.le_refl _)
        have f3 : Fr (fun _ => False) wr (((wr.alloc (.cells #[.int .i64 (K i), .int .i64 (A i)] 35)).alloc (.cells #[.int .i64 i] 3)).alloc (.cells #[.func (.func 23) #[] #[.pointer (some ⟨wr.heap.size, 0, none⟩), .pointer (some ⟨wr.heap.size + 1, 0, none⟩), .pointer (some ⟨w.heap.size, 0, none⟩)]] 1)) :=
          ((((Fr.refl _ wr).alloc _).alloc _).alloc _)
        have st3 := st.go f3
        have hws0 := st.fr.size
        have O1 := st3.fns
        have D1 : Blk (((wr.alloc (.cells #[.int .i64 (K i), .int .i64 (A i)] 35)).alloc (.cells #[.int .i64 i] 3)).alloc (.cells #[.func (.func 23) #[] #[.pointer (some ⟨wr.heap.size, 0, none⟩), .pointer (some ⟨wr.heap.size + 1, 0, none⟩), .pointer (some ⟨w.heap.size, 0, none⟩)]] 1)) wr.heap.size #[.int .i64 (K i), .int .i64 (A i)] 35 :=
          ((Blk.new wr _ _).alloc _).alloc _
        have E1 : Blk (((wr.alloc (.cells #[.int .i64 (K i), .int .i64 (A i)] 35)).alloc (.cells #[.int .i64 i] 3)).alloc (.cells #[.func (.func 23) #[] #[.pointer (some ⟨wr.heap.size, 0, none⟩), .pointer (some ⟨wr.heap.size + 1, 0, none⟩), .pointer (some ⟨w.heap.size, 0, none⟩)]] 1)) (wr.heap.size + 1) #[.int .i64 i] 3 := by
          have := (Blk.new (wr.alloc (.cells #[.int .i64 (K i), .int .i64 (A i)] 35)) #[.int .i64 i] 3).alloc (.cells #[.func (.func 23) #[] #[.pointer (some ⟨wr.heap.size, 0, none⟩), .pointer (some ⟨wr.heap.size + 1, 0, none⟩), .pointer (some ⟨w.heap.size, 0, none⟩)]] 1)
          rw [World.size_alloc] at this
          exact this
        have ST := Lib.hid st3
        have HD := Lib.hid D1
        have HE := Lib.hid E1
        have HC := Lib.hid hc
        have hil : i < len := by omega
        have hi12 : (i : Int) < 12 := by omega
        clear st3 f3 st D1 E1 hc
        have HB5a : ∀ j, j < i + 1 → w.heap.size ≤ (if j = i then wr.heap.size else bd j) ∧ w.heap.size ≤ (if j = i then wr.heap.size + 1 else bk j) := by
          intro j hj
          by_cases e : j = i
          · simp only [e, if_true]; omega
          · simp only [e, if_false]; exact HB.out j (by omega)
        have HB5 := Lib.hid HB5a
        clear HB5a
        go_wp2_with (first
          | (at_builtin; go_loud (refine wpList_append1 rfl _ _ 33 rfl 1 i0 .nilFunc 8 Try.underlying33 hif hz0 hz1 hz2 rfl (by decide) _ _ _ rfl _ _ O1 (wr.heap.size + 1 + 1) (by simp) rfl rfl (by omega) ?_; intro v' w1 O2 F2 hv'
                                  have ST2 := Lib.hid (ST.out.push HD.out HE.out hn4 O2 F2)
                                  have hn5 : ∀ x, Of v' x → w.heap.size ≤ x := fun x hx => (hv' x hx).elim (hn4 x) (fun h => by first | omega | (simp at h; omega))
                                  have HN5 := Lib.hid hn5
                                  have D2 := HD.out.fr F2 (O1.ne HD.out (by decide))
                                  have d0 := D2.cell 0
                                  have d1 := D2.cell 1
                                  have hws := ST2.out.fr.size
                                  clear O1 O2 F2 hv' hn5 hn4 ST HD HE D2 c0 c1))
          | (go_at_call 25; refine (stops_any _ _ _).mono ?_; rintro e w2 ⟨rfl, F3⟩
             have ST3 := Lib.hid (ST2.out.go F3)
             have q0 := ST3.out.first.cell 0
             have q1 := ST3.out.first.cell 1
             have qf := ST3.out.first.frozen
             have ql := ST3.out.first.lt
             clear ST2 F3))
        case roundEnd =>
          have hw : ¬ i < wantN (fun i => outD (K i) (A i)) m i := by assumption
          obtain ⟨e1, e2⟩ := want_late him (Nat.le_of_not_lt hw)
          refine ⟨⟨i + 1, (fun j => if j = i then wr.heap.size else bd j), (fun j => if j = i then wr.heap.size + 1 else bk j), by omega, by go_num, by rw [e1], ?_, HN5.out, HB5.out⟩, by simp [intOf]; omega⟩
          rw [e2]
          exact ST3.out.go ((Fr.refl _ _).alloc _)
        case roundEnd =>
          have hw : ¬ (outD (K i) (A i)).is = true := by assumption
          obtain ⟨e1, e2⟩ := want_quiet (out := fun i => outD (K i) (A i)) (m := m) (i := i) (by simpa using hw)
          refine ⟨⟨i + 1, (fun j => if j = i then wr.heap.size else bd j), (fun j => if j = i then wr.heap.size + 1 else bk j), by omega, by go_num, by rw [e1], ?_, HN5.out, HB5.out⟩, by simp [intOf]; omega⟩
          rw [e2]
          exact ST3.out.go ((Fr.refl _ _).alloc _)
        have his : (outD (K i) (A i)).is = true := by assumption
        have hw : i < wantN (fun i => outD (K i) (A i)) m i := by assumption
        obtain ⟨e1, e2⟩ := want_first (out := fun i => outD (K i) (A i)) his hw
        have E1 := Lib.hid e1
        have E2 := Lib.hid e2
        clear e1 e2
        go_region
        all_goals go_wp2_with fail
        all_goals
          refine ⟨⟨i + 1, (fun j => if j = i then wr.heap.size else bd j), (fun j => if j = i then wr.heap.size + 1 else bk j), by omega, by go_num, by rw [E1.out], ?_, HN5.out, HB5.out⟩, by simp [intOf]; omega⟩
          rw [E2.out]
          exact (ST3.out.setFirst (by omega) (outD (K i) (A i))).go (((Fr.refl _ _).alloc _).drew)
      · have e : i = m := by omega
        subst e
        have hrun := rows_run rows_fn (by omega) st hn4 (by omega) HB.out
        have hwe := (want_end (fun i => outD (K i) (A i)) i).1
        rw [hwe]
        obtain ⟨a4, c4, hu4, _, _⟩ := st.fns.form
        have hfl := firstStop_le (fun i => outD (K i) (A i)) i 0
        clear hwe
        generalize firstStop (fun i => outD (K i) (A i)) i 0 = f at *
        generalize firstS (fun i => outD (K i) (A i)) i = s at *
        have H1 := Lib.hid hrun
        have H2 := Lib.hid hn4
        clear hrun hn4 st
        subst hu4
        go_wp2_with fail
        refine H1.out.mono ?_
        rintro e w3 ⟨rfl, b6, hfr1, v, bs, os, _⟩
        have hfr : Fr (fun _ => False) w w3 := hfr1.mono (fun k hk h => by omega)
        obtain ⟨ax, cx, hvs, _, _⟩ := os.form
        subst hvs
        have lt6 := b6.lt
        have lts := bs.lt
        have q0 := b6.cell 0
        have q1 := b6.cell 1
        have qs := bs.cell 0
        have H3 := Lib.hid b6
        have H4 := Lib.hid bs
        have H5 := Lib.hid os
        have H6 := Lib.hid hfr
        clear b6 bs os hfr hfr1
        have HR := haltRuns_any
        have HRH := Lib.hid HR
        clear HR
        by_cases hfi : f < i
        · have hmin : min (f + 1) i = f + 1 := by omega
          rw [hmin] at qs H5
          have HC := Lib.hid (nums_cells H5.out)
          clear hmin
          go_wp2_with fail
          go_loop [83] (fun t83 => ∃ j : Nat, j ≤ f + 1 ∧ t83 = .int .i64 j) (fun t83 => (f + 1) - (intOf t83).toNat)
          case atStart => exact ⟨0, by omega, rfl⟩
          case round =>
            obtain ⟨j, hj, rfl⟩ := hrel
            by_cases hjd : j < f + 1
            · rcases HC.out with h | ⟨g, hax, hg, hcc⟩
              · omega
              subst hax
              have cj := hcc j hjd
              have hjd' : (j : Int) < (f : Int) + 1 := by omega
              clear hcc
              go_wp2_with fail
              exact ⟨⟨j + 1, by omega, by go_num⟩, by simp [intOf]; omega⟩
            · have hjn : ¬ (j : Int) < (f : Int) + 1 := by omega
              go_wp2_with fail
              refine (guard_nil _).mono ?_
              rintro e w4 ⟨rfl, fr4⟩
              have H7 := Lib.hid (((H6.out).alloc _).trans fr4)
              clear fr4
              go_wp2_with fail
              refine (HRH.out _).mono ?_
              rintro e w5 ⟨rfl, fr5⟩
              have H8 := Lib.hid (((H7.out).alloc _).trans fr5)
              clear fr5
              go_wp2_with fail
              go_ret
              exact ⟨rfl, H8.out.below⟩
        · obtain rfl : f = i := by omega
          have hmin : min (f + 1) f = f := by omega
          rw [hmin] at qs H5
          clear hmin
          have HC := Lib.hid (nums_cells H5.out)
          go_wp2_with fail
          go_loop [83] (fun t83 => ∃ j : Nat, j ≤ f ∧ t83 = .int .i64 j) (fun t83 => f - (intOf t83).toNat)
          case atStart => exact ⟨0, by omega, rfl⟩
          case round =>
            obtain ⟨j, hj, rfl⟩ := hrel
            by_cases hjd : j < f
            · rcases HC.out with h | ⟨g, hax, hg, hcc⟩
              · omega
              subst hax
              have cj := hcc j hjd
              clear hcc
              go_wp2_with fail
              exact ⟨⟨j + 1, by omega, by go_num⟩, by simp [intOf]; omega⟩
            · have hjn : ¬ (j : Int) < (f : Int) := by omega
              go_wp2_with fail
              refine (guard_nil _).mono ?_
              rintro e w4 ⟨rfl, fr4⟩
              have H7 := Lib.hid (((H6.out).alloc _).trans fr4)
              clear fr4
              go_wp2_with fail
              refine (HRH.out _).mono ?_
              rintro e w5 ⟨rfl, fr5⟩
              have H8 := Lib.hid (((H7.out).alloc _).trans fr5)
              clear fr5
              go_wp2_with fail
              go_ret
              exact ⟨rfl, H8.out.below⟩
end Go.Proofs.Ytbjfgcabomgdbaa
