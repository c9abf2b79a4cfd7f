import Derived.Test.YtoifefcbegdjdaaRankL
import Derived.Test.YtoifefcbegdjdaaAskB
import Derived.Test.YtoifefcbegdjdaaInts
import Derived.Test.YtoifefcbegdjdaaWithin
import Derived.Deep.RegionHeld3
namespace Go.Proofs.Ytoifefcbegdjdaa
open Go.RowKit

/-- the keeper, in whatever state -/
structure RankAny (w0 : World) (x k bx m : Nat) (F : Nat → Prop) (w : World) : Prop where
  s : ∃ L O, RankSt w0 x k bx L O F w ∧ RK k L O ∧ ∀ i, i < k → (L i).length ≤ m
theorem RankAny.fr {w0 : World} {x k bx m : Nat} {F : Nat → Prop} {w w' : World} (h : RankAny w0 x k bx m F w) (f : Fr (fun _ => False) w w') : RankAny w0 x k bx m F w' := by
  obtain ⟨L, O, a, b, c⟩ := h.s
  exact ⟨L, O, a.fr f, b, c⟩

theorem RankAny.frS {w0 : World} {x k bx m : Nat} {F S : Nat → Prop} {w w' : World} (h : RankAny w0 x k bx m F w) (f : Fr S w w') (hs : ∀ q, F q → ¬ S q) (hb : ¬ S bx) (h0 : ∀ q, S q → w0.heap.size ≤ q) : RankAny w0 x k bx m F w' := by
  obtain ⟨L, O, a, b, c⟩ := h.s
  exact ⟨L, O, ⟨a.H.fr f hs, a.B.fr f hb, a.f.step f (fun q hq hS => absurd (h0 q hS) (by omega)), a.d⟩, b, c⟩
theorem RankSt.frS {w0 : World} {x n bx : Nat} {L : Nat → List Int} {O : Int → Option Int} {F S : Nat → Prop} {w w' : World} (a : RankSt w0 x n bx L O F w) (f : Fr S w w') (hs : ∀ q, F q → ¬ S q) (hb : ¬ S bx) (h0 : ∀ q, S q → w0.heap.size ≤ q) : RankSt w0 x n bx L O F w' :=
  ⟨a.H.fr f hs, a.B.fr f hb, a.f.step f (fun q hq hS => absurd (h0 q hS) (by omega)), a.d⟩
theorem own_last {w : World} {l : List Int} {u : Value} {y : Int} (h : Own w 3 1 l.length u (ints l)) (hy : l.getLast? = some y) : ∃ M g cap, l.length = M + 1 ∧ u = .slice (some ⟨g, 0, none⟩) (M + 1) cap ∧ g < w.heap.size ∧ w.cell? ⟨g, M, none⟩ = some (.int .i64 y) := by
  have hpos : 0 < l.length := by
    rcases Nat.eq_zero_or_pos l.length with h0 | h0
    · rw [List.eq_nil_of_length_eq_zero h0] at hy; simp at hy
    · exact h0
  have hlast := List.getLast?_eq_getElem? (l := l)
  have hlt : l.length - 1 < l.length := by omega
  rw [List.getElem?_eq_getElem hlt] at hlast
  rw [hlast] at hy
  rcases h.cases with ⟨_, h1, _⟩ | ⟨g, cap, e, hg, _, _, hcell, _⟩
  · omega
  · refine ⟨l.length - 1, g, cap, by omega, by rw [e]; congr 1; omega, hg, ?_⟩
    rw [hcell (l.length - 1) (by omega), ints_get, List.getElem?_eq_getElem hlt]
    simp only [Option.some.injEq] at hy
    rw [hy]
    rfl
theorem own_nil {w : World} {l : List Int} {u : Value} (h : Own w 3 1 l.length u (ints l)) (hy : l.getLast? = none) : ∃ a cap, u = .slice a 0 cap := by
  rw [List.getLast?_eq_none_iff] at hy
  subst hy
  obtain ⟨a, cap, e, _⟩ := h.form
  exact ⟨a, cap, e⟩
theorem RankAny.lt {w0 : World} {x k bx m : Nat} {F : Nat → Prop} {w : World} (h : RankAny w0 x k bx m F w) : (∀ q, F q → q < w.heap.size) ∧ bx < w.heap.size ∧ w0.heap.size ≤ w.heap.size := by
  obtain ⟨L, O, a, b, c⟩ := h.s
  exact ⟨fun q hq => a.H.lt hq, a.B.lt, a.f.size⟩

theorem rankCircle1 (x k bx bw br : Nat) (m : Nat) (F : Nat → Prop) (i : Nat) (r : Int) (w0 w : World) (h : RankAny w0 x k bx m F w) (hi : i < k) (hm : m < 100000) (hbw : Blk w bw #[.int .i64 i] 3) (hbr : Blk w br #[.int .i64 r] 3) :
    Calls Try.prog 31 #[.pointer (some ⟨bx, 0, none⟩), .pointer (some ⟨bw, 0, none⟩), .pointer (some ⟨br, 0, none⟩)] w fun e w' => (∃ s, Tame s e ∧ Fr F w w') ∧ ∃ F', RankAny w0 x k bx (m + 1) F' w' ∧ ∀ q, F' q → F q ∨ w.heap.size ≤ q := by
  obtain ⟨L, O, hs, hk, hl⟩ := h.s
  have c0 := hs.B.cell 0
  have c1 := hbw.cell 0
  have c2 := hbr.cell 0
  have HS := Lib.hid hs
  have HK := Lib.hid hk
  have HL := Lib.hid hl
  by_cases ha : Above (L i) r
  · cases ho : O r with
    | none =>
      have HT := Lib.hid (rank_take x k L O F i w hs.H hi r ha ho (by have := hl i hi; omega))
      have HRK := Lib.hid (hk.take hi ha ho)
      clear h hs hk hl hbw hbr ha ho
      go_enter Try.func31, Try.ntmps31
      go_wp2_with (go_at_call 24; (with_reducible refine HT.out.mono ?_); rintro e w' ⟨rfl, f, F', H, hF⟩; have HH := Lib.hid H; have HFF := Lib.hid f; have HF2 := Lib.hid hF; clear f H hF)
      go_end0
      refine ⟨⟨.ok, ⟨_, rfl⟩, HFF.out⟩, F', ⟨_, _, HS.out.to HFF.out HH.out HF2.out, HRK.out, fun j hj => ?_⟩, HF2.out⟩
      by_cases e : j = i
      · subst e; rw [upd_self]; have := HL.out j hj; simp; omega
      · rw [upd_ne _ _ e]; have := HL.out j hj; omega
    | some y =>
      have HT := Lib.hid (rank_take_had x k L O F i w hs.H hi r y ha ho)
      clear h hs hk hl hbw hbr ha ho
      go_enter Try.func31, Try.ntmps31
      go_wp2_with (go_at_call 24; (with_reducible refine HT.out.mono ?_); rintro e w' ⟨rfl, f⟩; have HFF := Lib.hid f; clear f)
      exact ⟨rfl, ⟨.stop 6 r, ⟨[], rfl, rfl⟩, HFF.out.mono (fun _ _ h => h.elim)⟩, F, ⟨L, O, HS.out.fr HFF.out, HK.out, fun j hj => by have := HL.out j hj; omega⟩, fun _ => .inl⟩
  · have HT := Lib.hid (rank_take_low x k L O F i w hs.H hi r ha)
    clear h hs hk hl hbw hbr ha
    go_enter Try.func31, Try.ntmps31
    go_wp2_with (go_at_call 24; (with_reducible refine HT.out.mono ?_); rintro e w' ⟨rfl, f⟩; have HFF := Lib.hid f; clear f)
    exact ⟨rfl, ⟨.stop 5 r, ⟨[], rfl, rfl⟩, HFF.out.mono (fun _ _ h => h.elim)⟩, F, ⟨L, O, HS.out.fr HFF.out, HK.out, fun j hj => by have := HL.out j hj; omega⟩, fun _ => .inl⟩

/-- i takes were tried -/
def TakenRel (w0 : World) (x k bx len : Nat) (t9 : Value) (w : World) : Prop :=
  ∃ (i : Nat) (F : Nat → Prop), i ≤ 60 ∧ i ≤ len ∧ t9 = .int .i64 i ∧ RankAny w0 x k bx i F w

/-- a wait goes to one that holds more -/
def Edge (k : Nat) (M : Nat → Int) (v : Int) : Nat → Prop := fun w => v = -1 ∨ ∃ u : Nat, v = u ∧ u < k ∧ M w < M u

def topL (L : Nat → List Int) (j : Nat) : Int := topR (L j)
theorem edge_of {k : Nat} {L : Nat → List Int} {O : Int → Option Int} (h : RK k L O) {w : Nat} {r : Int} (hr : 0 ≤ r) (hw : ∀ y, (L w).getLast? = some y → y < r) : Edge k (topL L) ((O r).getD (-1)) w := by
  cases ho : O r with
  | none => exact .inl rfl
  | some v => exact .inr (topR_edge h hr hw ho)

/-- the first i waits are known -/
def NextRel (w0 : World) (x k bx nb : Nat) (L : Nat → List Int) (O : Int → Option Int) (F : Nat → Prop) (t55 : Value) (w : World) : Prop :=
  ∃ (i : Nat) (f : Nat → Int), i ≤ k ∧ t55 = .int .i64 i ∧ RankSt w0 x k bx L O F w ∧ Arr w nb k (fun j => .int .i64 (f j)) 3 ∧ (∀ j, j < i → Edge k (topL L) (f j) j)

def AtRel (k : Nat) (M : Nat → Int) (t17 t18 : Value) : Prop :=
  ∃ (i : Nat) (at_ : Int), i ≤ k ∧ t18 = .int .i64 i ∧ t17 = .int .i64 at_ ∧ (at_ = -1 ∨ ∃ u : Nat, at_ = u ∧ u < k ∧ cntA M (M u) k + i + 1 ≤ k)

set_option maxHeartbeats 2000000 in
set_option maxRecDepth 100000 in
theorem rankCircle_walk (n : Int) (a : Option Addr) (len cap : Nat) (V : Nat → Nat → Value) (a2 : Option Addr) (len2 cap2 : Nat) (V2 : Nat → Nat → Value) (w : World) (wf : (Lit.int .i64 n).wf = true) (s : IsSl [.int .i64, .int .i64, .bool] w a len cap V) (s2 : IsSl [.int .i64] w a2 len2 cap2 V2) :
    Calls Try.prog 5 #[.int .i64 n, .slice a len cap, .slice a2 len2 cap2] w fun e w' => e = .returned (.bool true) ∧ Below w.heap.size w w' := by
  have hmf : ∀ (fn : Fn) (first cap : Array Value) (w : World), (Instr.makeFunc fn first cap).run Try.prog w = .ok (.func fn first cap) w := fun _ _ _ _ => rfl
  have hw := fun w => within_any n 2 8 w (wf_i64 wf) (by omega) (by omega) (by omega)
  have hk := wth_bd (n := n) (lo := 2) (hi := 8) (by omega)
  obtain ⟨k, hk'⟩ : ∃ k : Nat, wth n 2 8 = k := ⟨(wth n 2 8).toNat, by omega⟩
  rw [hk'] at hw hk
  have hk1 : 2 ≤ k := by omega
  have hk2 : k ≤ 8 := by omega
  have HW := Lib.hid hw
  obtain ⟨K, A, X, hA⟩ := AsksB.of s
  obtain ⟨A2, hA2⟩ := Nums.of s2
  have HA := Lib.hid hA
  have HA2 := Lib.hid hA2
  clear hw hk hk' wf s s2 hA hA2
  have hmk := made_int k (by omega)
  go_enter Try.func5, Try.ntmps5
  go_wp2_with (go_at_call 14; (with_reducible refine (HW.out _).mono ?_); rintro e w' ⟨rfl, rfl⟩)
  refine (rank_new k (by omega) _).mono ?_
  rintro e w1 ⟨rfl, f1, H1⟩
  have hlt := H1.lt (k := w.heap.size + 2) (by omega)
  have st := RankSt.mk (w0 := w) (H1.fr ((Fr.refl (fun _ => False) _).alloc (.cells #[.pointer (some ⟨w.heap.size + 2, 0, none⟩)] 36)) (fun _ _ => id)) (Blk.at_new (b := w1.heap.size) rfl) (f1.alloc _) ⟨by omega, fun k hk => hk.1⟩
  have H2 := Lib.hid (show RankAny w (w.heap.size + 2) k w1.heap.size 0 _ _ from ⟨_, _, st, RK.nil k, fun _ _ => by simp⟩)
  clear f1 H1 st
  go_wp2_with fail
  obtain ⟨x, hx⟩ : ∃ x, x = w.heap.size + 2 := ⟨_, rfl⟩
  obtain ⟨bx, hbx⟩ : ∃ bx, bx = w1.heap.size := ⟨_, rfl⟩
  rw [← hx, ← hbx] at H2
  rw [← hx, ← hbx]
  clear hlt hx hbx
  go_loopw [9] (fun t9 wr => TakenRel w x k bx len t9 wr) (fun t9 _ => (60 - intOf t9).toNat)
  case atStart => exact ⟨0, _, by omega, by omega, rfl, H2.out⟩
  case round =>
    obtain ⟨i, F, hi, hil, rfl, hR⟩ := hrel
    have HR := Lib.hid hR
    obtain ⟨L, O, hs, hrk, hll⟩ := hR.s
    have cx := hs.B.cell 0
    have lx := hs.B.lt
    clear H2
    by_cases hr : i < len ∧ i < 60
    · obtain ⟨hr1, hr2⟩ := hr
      have hr1' : (i : Int) < len := by omega
      have hr2' : (i : Int) < 60 := by omega
      rcases HA.out.at hs.f with h | ⟨b, off, rfl, hbw, hcl⟩
      · omega
      obtain ⟨⟨c0, hbd⟩, ⟨c1, hbd2⟩, _⟩ := hcl i hr1
      have hwb := wth_bd (n := K i) (lo := 0) (hi := (k : Int) - 1) (by omega)
      obtain ⟨j, hj⟩ : ∃ j : Nat, wth (K i) 0 ((k : Int) - 1) = j := ⟨(wth (K i) 0 ((k : Int) - 1)).toNat, by omega⟩
      have hwi := fun w => within_any (K i) 0 ((k : Int) - 1) w hbd (by omega) (by omega) (by omega)
      rw [hj] at hwb hwi
      have hwi2 := fun w => within_any (A i) 0 12 w hbd2 (by omega) (by omega) (by omega)
      have hji : j < k := by omega
      have HWI := Lib.hid hwi
      have HWI2 := Lib.hid hwi2
      have hi0 : (0 : Int) ≤ i := by omega
      clear hR hs hrk hll hcl hwb hj hwi hwi2 hbd hbd2
      have hwk : IntKind.i64.wrap ((k : Int) - 1) = (k : Int) - 1 := IntWalk.i64_in _ (by omega)
      go_wp2_with fail
      go_region_held3 (fun w' => w'.cell? ⟨b, off + i * 3, none⟩ = some (.int .i64 (K i)) ∧ w'.cell? ⟨b, off + i * 3 + 1, none⟩ = some (.int .i64 (A i))) (first | exact ⟨by assumption, by assumption⟩ | go_keep)
        (first | (go_at_call 14; (with_reducible refine (HWI.out _).mono ?_); rintro e w' ⟨rfl, rfl⟩) | (go_at_call 14; (with_reducible refine (HWI2.out _).mono ?_); rintro e w' ⟨rfl, rfl⟩))
      all_goals
        go_wp2_with fail
        refine (guard_of 31 _ _ _ F (fun q hq => by have := HR.out.lt.1 q hq; simp; omega) (fun w => by simp [go_sem])
          (rankCircle1 x k bx _ _ i F j (wth (A i) 0 12) w _ (HR.out.fr ((((Fr.refl _ _).alloc _).alloc _).drew.trans (gworld_fr _ _))) hji (by omega) (Blk.fr (by first | exact ((Blk.at_new rfl).alloc _).drew | exact (Blk.at_new (by simp)).drew) (gworld_fr _ (fun _ => False)) id) (Blk.fr (by first | exact ((Blk.at_new rfl).alloc _).drew | exact (Blk.at_new (by simp)).drew) (gworld_fr _ (fun _ => False)) id)) (fun e w' h => h.1)).mono ?_
        rintro e w2 ⟨s, e1, w1, ⟨_, F', hR', hF'⟩, ht, rfl, fb⟩
        have hsz : ∀ q, F' q → F q ∨ wr.heap.size + 5 ≤ q := fun q hq => (hF' q hq).imp id (fun h => by rw [gworld_size] at h; simpa using h)
        have hR2 : RankAny w x k bx (i + 1) F' w2 := hR'.frS fb (fun q hq h => by
            simp at h
            rcases hsz q hq with h' | h'
            · have := HR.out.lt.1 q h'; omega
            · omega) (fun h => by simp at h; omega) (fun q h => by simp at h; have := HR.out.lt.2.2; omega)
        have HR2 := Lib.hid hR2
        clear hR' hF' ht fb hsz hR2
        go_wp2_with fail
        exact ⟨⟨i + 1, F', by omega, by omega, by go_num, HR2.out⟩, by simp [intOf]; omega⟩
    · have hi60 := Lib.hid hi
      have HST0 := Lib.hid (hs.fr ((Fr.refl (fun _ => False) wr).alloc (.cells (madeCells #[.int .i64 0] k) 3)))
      have HNF := Lib.hid (show ¬ F wr.heap.size from fun h => Nat.lt_irrefl _ (hs.H.lt h))
      have HNB := Lib.hid (show bx ≠ wr.heap.size by omega)
      have HNW := Lib.hid (show w.heap.size ≤ wr.heap.size from hs.f.size)
      have HAR0 := Lib.hid (Arr.at_new (w := wr) (t := 3) (.int .i64 0) k rfl)
      have HRK := Lib.hid hrk
      have HLL := Lib.hid hll
      have HRR := Lib.hid rankRuns_any
      clear hR hs hrk hll HR
      rcases (show ¬ (i : Int) < len ∨ ((i : Int) < len ∧ ¬ (i : Int) < 60) by omega) with hx | ⟨hx, hy⟩
      all_goals
        clear hr
        go_wp2_with fail
        obtain ⟨nb, hnb⟩ : ∃ nb, nb = wr.heap.size := ⟨_, rfl⟩
        rw [← hnb] at HNF HNB HNW HAR0
        rw [← hnb]
        generalize (wr.alloc (.cells (madeCells #[.int .i64 0] k) 3)) = W0 at *
        clear hnb hx cx lx
        go_loopw [55] (fun t55 wq => NextRel w x k bx nb L O F t55 wq) (fun t55 _ => (k - intOf t55).toNat)
        case atStart => exact ⟨0, fun _ => 0, by omega, rfl, HST0.out, HAR0.out, fun j hj => absurd hj (by omega)⟩
        case round =>
          obtain ⟨wr2, rfl⟩ : ∃ W, W = wr := ⟨wr, rfl⟩
          obtain ⟨i2, f, hi2, rfl, hst, har, hed⟩ := hrel
          have HST := Lib.hid hst
          have HAR := Lib.hid har
          have HED := Lib.hid hed
          clear HST0 HAR0
          have cx := hst.B.cell 0
          have ca := har.lt
          have cf := har.frozen
          by_cases hik : i2 < k
          · have hik' : (i2 : Int) < k := by omega
            have ci := har.cell hik
            have HL := Lib.hid (fun W (h : RankSt w x k bx L O F W) => rank_list x k L O F i2 W h.H hik)
            have hnb1 := HNB.out
            clear hst har hed
            by_cases hl2 : i2 < len2
            · have hl2' : (i2 : Int) < len2 := by omega
              have hl2'' : ¬ (len2 : Int) ≤ i2 := by omega
              rcases HA2.out with h | ⟨b2, off2, rfl, hb2, hc2⟩
              · omega
              obtain ⟨d0, hbd2⟩ := hc2 i2 hl2
              have d1 : wr2.cell? ⟨b2, off2 + i2, none⟩ = some (.int .i64 (A2 i2)) := (World.cell?_of_block (HST.out.f.block b2 hb2 id)).trans d0
              have hne2 : b2 ≠ nb := by have := HNW.out; omega
              have HWI := Lib.hid (fun w => within_any (A2 i2) 0 12 w hbd2 (by omega) (by omega) (by omega))
              have HWB := Lib.hid (wth_bd (n := A2 i2) (lo := 0) (hi := 12) (by omega))
              clear hc2 d0 hbd2
              have HST1 := Lib.hid (HST.out.frS (Fr.set1 wr2 nb i2 (.int .i64 (-1))) (fun q hq e => HNF.out (e ▸ hq)) (fun e => HNB.out e) (fun q e => by rw [e]; exact HNW.out))
              have HAR1 := Lib.hid (HAR.out.set i2 (.int .i64 (-1)))
              cases hlast : (L i2).getLast? with
              | none =>
                have HLN := Lib.hid hlast
                clear hlast
                go_wp2_with (first
                  | (go_at_call 14; (with_reducible refine (HWI.out _).mono ?_); rintro e w' ⟨rfl, rfl⟩)
                  | (go_at_call 29; (with_reducible refine (HL.out _ HST1.out).mono ?_); rintro e w3 ⟨u, rfl, ou, fu, hu⟩; obtain ⟨a3, c3, rfl⟩ := own_nil ou HLN.out; have ST3 := HST1.out.fr fu; have AR3 := HAR1.out.fr fu id; have HST3 := Lib.hid ST3; have HAR3 := Lib.hid AR3; have bx3 := ST3.B.cell 0; have af3 := AR3.frozen; have al3 := AR3.lt; have ac3 := AR3.cell hik; clear ou fu hu ST3 AR3)
                  | (go_at_call 30; (with_reducible refine (HST3.out.owner (wth (A2 i2) 0 12) rfl).mono ?_); rintro e w' ⟨rfl, rfl⟩))
                refine ⟨⟨i2 + 1, upd (upd f i2 (-1)) i2 ((O (wth (A2 i2) 0 12)).getD (-1)), by omega, by go_num, HST3.out.frS (Fr.set1 w3 nb i2 _) (fun q hq e => HNF.out (e ▸ hq)) (fun e => HNB.out e) (fun q e => by rw [e]; exact HNW.out), ?_, fun j hj => ?_⟩, by simp [intOf]; omega⟩
                · have := HAR3.out.set i2 (.int .i64 ((O (wth (A2 i2) 0 12)).getD (-1)))
                  rw [← upd_comp (fun q => Value.int .i64 q), ← upd_comp (fun q => Value.int .i64 q)] at this
                  exact this
                · by_cases e : j = i2
                  · subst e; rw [upd_self]; exact edge_of HRK.out HWB.out.1 (fun y hy => by rw [HLN.out] at hy; simp at hy)
                  · rw [upd_ne _ _ e, upd_ne _ _ e]; exact HED.out j (by omega)
              | some y =>
                have HLN := Lib.hid hlast
                clear hlast
                by_cases hry : wth (A2 i2) 0 12 ≤ y
                · go_wp2_with (first
                    | (go_at_call 14; (with_reducible refine (HWI.out _).mono ?_); rintro e w' ⟨rfl, rfl⟩)
                    | (go_at_call 29; (with_reducible refine (HL.out _ HST1.out).mono ?_); rintro e w3 ⟨u, rfl, ou, fu, hu⟩; obtain ⟨M, g3, c3, hM, rfl, hg3, d3⟩ := own_last ou HLN.out; have m0 : (0 : Int) ≤ M := (by omega); have m1 : (M : Int) ≤ 100 := (by have := HLL.out i2 hik; have := hi60.out; omega); have ST3 := HST1.out.fr fu; have AR3 := HAR1.out.fr fu id; have HST3 := Lib.hid ST3; have HAR3 := Lib.hid AR3; have bx3 := ST3.B.cell 0; have af3 := AR3.frozen; have al3 := AR3.lt; have ac3 := AR3.cell hik; clear ou fu hu ST3 AR3))
                  refine ⟨⟨i2 + 1, upd f i2 (-1), by omega, by go_num, HST3.out, ?_, fun j hj => ?_⟩, by simp [intOf]; omega⟩
                  · exact upd_comp (fun q => Value.int .i64 q) f i2 (-1) ▸ HAR3.out
                  · by_cases e : j = i2
                    · subst e; rw [upd_self]; exact .inl rfl
                    · rw [upd_ne _ _ e]; exact HED.out j (by omega)
                · have hry' : decide (wth (A2 i2) 0 12 ≤ y) = false := decide_eq_false hry
                  have HRY := Lib.hid hry
                  clear hry
                  go_wp2_with (first
                    | (go_at_call 14; (with_reducible refine (HWI.out _).mono ?_); rintro e w' ⟨rfl, rfl⟩)
                    | (go_at_call 29; (with_reducible refine (HL.out _ HST1.out).mono ?_); rintro e w3 ⟨u, rfl, ou, fu, hu⟩; obtain ⟨M, g3, c3, hM, rfl, hg3, d3⟩ := own_last ou HLN.out; have m0 : (0 : Int) ≤ M := (by omega); have m1 : (M : Int) ≤ 100 := (by have := HLL.out i2 hik; have := hi60.out; omega); have ST3 := HST1.out.fr fu; have AR3 := HAR1.out.fr fu id; have HST3 := Lib.hid ST3; have HAR3 := Lib.hid AR3; have bx3 := ST3.B.cell 0; have af3 := AR3.frozen; have al3 := AR3.lt; have ac3 := AR3.cell hik; clear ou fu hu ST3 AR3)
                    | (go_at_call 30; (with_reducible refine (HST3.out.owner (wth (A2 i2) 0 12) rfl).mono ?_); rintro e w' ⟨rfl, rfl⟩))
                  refine ⟨⟨i2 + 1, upd (upd f i2 (-1)) i2 ((O (wth (A2 i2) 0 12)).getD (-1)), by omega, by go_num, HST3.out.frS (Fr.set1 w3 nb i2 _) (fun q hq e => HNF.out (e ▸ hq)) (fun e => HNB.out e) (fun q e => by rw [e]; exact HNW.out), ?_, fun j hj => ?_⟩, by simp [intOf]; omega⟩
                  · have := HAR3.out.set i2 (.int .i64 ((O (wth (A2 i2) 0 12)).getD (-1)))
                    rw [← upd_comp (fun q => Value.int .i64 q), ← upd_comp (fun q => Value.int .i64 q)] at this
                    exact this
                  · by_cases e : j = i2
                    · subst e; rw [upd_self]; exact edge_of HRK.out HWB.out.1 (fun y' hy => by rw [HLN.out] at hy; simp at hy; subst hy; have := HRY.out; omega)
                    · rw [upd_ne _ _ e, upd_ne _ _ e]; exact HED.out j (by omega)
            · have hl2' : (len2 : Int) ≤ i2 := by omega
              go_wp2_with fail
              refine ⟨⟨i2 + 1, upd f i2 (-1), by omega, by go_num, HST.out.frS (Fr.set1 wr2 nb i2 _) (fun q hq e => HNF.out (e ▸ hq)) (fun e => HNB.out e) (fun q e => by rw [e]; exact HNW.out), ?_, fun j hj => ?_⟩, by simp [intOf]; omega⟩
              · exact upd_comp (fun q => Value.int .i64 q) f i2 (-1) ▸ HAR.out.set i2 (.int .i64 (-1))
              · by_cases e : j = i2
                · subst e; rw [upd_self]; exact .inl rfl
                · rw [upd_ne _ _ e]; exact HED.out j (by omega)
          · have hik' : ¬ (i2 : Int) < k := by omega
            obtain rfl : i2 = k := by omega
            clear hst har hed cx
            have HCE := Lib.hid (fun j hj => HAR.out.cell (i := j) hj)
            go_wp2_with fail
            go_loop [95] (fun t95 => ∃ q : Nat, q ≤ i2 ∧ t95 = .int .i64 q) (fun t95 => (i2 - intOf t95).toNat)
            case atStart => exact ⟨0, by omega, rfl⟩
            case round =>
              obtain ⟨q, hq, rfl⟩ := hrel
              by_cases hqk : q < i2
              · have hqk' : (q : Int) < i2 := by omega
                go_wp2_with fail
                go_loop [17, 18] (fun t17 t18 => AtRel i2 (topL L) t17 t18) (fun _ t18 => (i2 - intOf t18).toNat)
                case atStart => exact ⟨0, q, by omega, rfl, rfl, .inr ⟨q, rfl, hqk, cntA_self _ hqk⟩⟩
                case round =>
                  obtain ⟨z, at_, hz, rfl, rfl, hat⟩ := hrel
                  by_cases hzk : z < i2
                  · have hzk' : (z : Int) < i2 := by omega
                    rcases hat with rfl | ⟨u, rfl, hu, hc⟩
                    · go_wp2_with fail
                      go_round
                      case rel => exact ⟨q + 1, by omega, by go_num⟩
                      case measure => simp [intOf]; omega
                    · have hu' : (u : Int) < i2 := by omega
                      have cu := HCE.out u hu
                      have HC := Lib.hid hc
                      go_wp2_with fail
                      go_round
                      case rel =>
                        refine ⟨z + 1, f u, by omega, by go_num, rfl, ?_⟩
                        rcases HED.out u hu with e | ⟨v, e, hv, hm⟩
                        · exact .inl e
                        · refine .inr ⟨v, e, hv, ?_⟩
                          have := cntA_step (topL L) hv hm
                          have := HC.out
                          omega
                      case measure => simp [intOf]; omega
                  · have hzk' : ¬ (z : Int) < i2 := by omega
                    rcases hat with rfl | ⟨u, rfl, hu, hc⟩
                    · go_wp2_with fail
                      go_round
                      case rel => exact ⟨q + 1, by omega, by go_num⟩
                      case measure => simp [intOf]; omega
                    · omega
              · have hqk' : ¬ (q : Int) < i2 := by omega
                go_wp2_with (go_at_call 4; refine (HRR.out _).mono ?_; rintro e w8 ⟨rfl, f8⟩; have HF8 := Lib.hid f8; clear f8)
                go_ret
                exact ⟨rfl, (HST.out.f.trans HF8.out).below⟩
end Go.Proofs.Ytoifefcbegdjdaa
