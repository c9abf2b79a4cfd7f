import Derived.Test.YtoifefcbegdjdaaHaltP
import Derived.Test.YtoifefcbegdjdaaWithin
import Derived.Test.YtoifefcbegdjdaaOpen
import Derived.Test.YtoifefcbegdjdaaArr
namespace Go.Proofs.Ytoifefcbegdjdaa
open Go.RowKit

theorem lvl_upd (bd bs : Nat) (gb jb : Nat → Nat) (m x y : Nat) : ∀ q, q ≤ m → lvl bd bs (upd gb m x) (upd jb m y) q = lvl bd bs gb jb q
  | 0, _ => rfl
  | q + 1, h => by simp only [lvl]; rw [upd_ne _ _ (by omega), upd_ne _ _ (by omega)]
theorem lvl_form (bd bs : Nat) (gb jb : Nat → Nat) (i : Nat) : ∃ g c, lvl bd bs gb jb i = .func (.func g) #[] c := by
  cases i with
  | zero => exact ⟨_, _, rfl⟩
  | succ i => exact ⟨_, _, rfl⟩

set_option maxRecDepth 100000 in
theorem topDoes (bd bs bb gt : Nat) (gb jb : Nat → Nat) (K A KB AB : Int) (m : Nat) (hm : m ≤ 100) (w : World) (hL : Lv bd bs gb jb K A m w) (hb : Blk w bs #[.slice none 0 0] 24)
    (hg : Blk w gt #[lvl bd bs gb jb m] 1) (hbb : Blk w bb #[.int .i64 KB, .int .i64 AB] 23) :
    Calls Try.prog 19 #[.pointer (some ⟨gt, 0, none⟩), .pointer (some ⟨bb, 0, none⟩), .pointer (some ⟨bs, 0, none⟩)] w fun e w' =>
      Tame (comb (outD K A) (outD KB AB)) e ∧ Fr (fun j => j = bs) w w' ∧ ∃ v', Blk w' bs #[v'] 24 ∧ Own w' 3 1 (m + 1 + 1) v' (upto (m + 1) ++ [.int .i64 9]) ∧ ∀ k, Of v' k → w.heap.size ≤ k := by
  have hn3 : bb ≠ bs := hbb.ne hb (.inr (by decide))
  obtain ⟨g, c, e1, hc, hcall⟩ := level bd bs gb jb K A m hm m (Nat.le_refl _) w hL hb
  have g0 := hg.cell 0
  rw [e1] at g0
  have hmf : ∀ (fn : Fn) (first cap : Array Value) (w : World), (Instr.makeFunc fn first cap).run Try.prog w = .ok (.func fn first cap) w := fun _ _ _ _ => rfl
  have HC := Lib.hid hcall
  have HH := Lib.hid hc
  have HB := Lib.hid hbb
  clear hcall hc hL hb e1 hg hbb
  go_enter Try.func19, Try.ntmps19
  go_wp2_with fail
  refine (after_any g 20 c _ w (outD K A) (outD KB AB) _ (fun w' => Fr (fun j => j = bs) w w' ∧ ∃ v', Blk w' bs #[v'] 24 ∧ Own w' 3 1 (m + 1 + 1) v' (upto (m + 1) ++ [.int .i64 9]) ∧ ∀ k, Of v' k → w.heap.size ≤ k) HH.out (fun w => by simp [go_sem]) HC.out ?_).mono ?_
  · rintro w1 ⟨v', b1, o1, f1, hv⟩
    have j1 := HB.out.fr f1 hn3
    have L := lastDeed KB AB bs bb v' (m + 1) (upto (m + 1)) w1 j1 b1 o1 (by omega)
    intro u
    refine (L u).mono ?_
    rintro e u' w2 ⟨hu, ht, v2, b2, o2, f2, hv2⟩
    exact ⟨hu, ht, f1.step f2 (fun k hk h => by
        rcases h with h | h
        · exact h
        · have := hv k h; omega), v2, b2, o2, fun k hk => by
        rcases hv2 k hk with h | h
        · exact hv k h
        · have := f1.size; omega⟩
  · intro e w' h
    have H := Lib.hid h
    clear h
    cases e with
    | returned u =>
      dsimp only
      go_wp2_with fail
      go_end0
      exact ⟨H.out.1.ret, H.out.2⟩
    | panicked chain => exact ⟨rfl, H.out⟩
    | outgrown => exact H.out.1.no.elim

theorem Own.cells' {w : World} {e : TypeId} {n g cap : Nat} {v : Value} {xs : List Value} (h : Own w e 1 n v xs) (hv : v = .slice (some ⟨g, 0, none⟩) n cap) : ∀ j, j < n → w.cell? ⟨g, j, none⟩ = xs[j]? := by
  rcases h.cases with ⟨rfl, _⟩ | ⟨g', cap', rfl, _, _, _, hc, _⟩
  · simp at hv
  · simp only [Value.slice.injEq, Option.some.injEq, Addr.mk.injEq] at hv
    obtain ⟨⟨rfl, _⟩, _⟩ := hv
    exact fun j hj => hc j (by omega)

theorem seen_at (m j : Nat) (h : j ≤ m) : (upto (m + 1) ++ [.int .i64 9])[j]? = some (.int .i64 j) := by
  rw [List.getElem?_append_left (by rw [upto_len]; omega)]; exact upto_get _ _ (by omega)
theorem seen_nine (m : Nat) : (upto (m + 1) ++ [.int .i64 9])[m + 1]? = some (.int .i64 9) := by
  rw [List.getElem?_append_right (by rw [upto_len]; omega), upto_len]; simp

/-- i levels have been made -/
def LvRel (w0 : World) (bd bs bb k : Nat) (K A KB AB : Int) (t8 t10 : Value) (w : World) : Prop :=
  ∃ (i : Nat) (gb jb : Nat → Nat) (g : FuncId) (c : Array Value), i ≤ k ∧ t10 = .int .i64 ((i : Int) + 1) ∧ t8 = .func (.func g) #[] c ∧ Hid (lvl bd bs gb jb i = .func (.func g) #[] c) ∧ Lv bd bs gb jb K A i w ∧
    Blk w bs #[.slice none 0 0] 24 ∧ Blk w bb #[.int .i64 KB, .int .i64 AB] 23 ∧ Fr (fun _ => False) w0 w

set_option maxHeartbeats 2000000 in
set_option maxRecDepth 100000 in
theorem haltAfter_walk (K A KB AB deep : Int) (w : World) (_wk : (Lit.int .i64 K).wf = true) (_wa : (Lit.int .i64 A).wf = true) (_wkb : (Lit.int .i64 KB).wf = true) (_wab : (Lit.int .i64 AB).wf = true) (wf : (Lit.int .i64 deep).wf = true) :
    Calls Try.prog 3 #[.agg #[.int .i64 K, .int .i64 A], .agg #[.int .i64 KB, .int .i64 AB], .int .i64 deep] w fun e w' => e = .returned (.bool true) ∧ Below w.heap.size w w' := by
  have hmf : ∀ (fn : Fn) (first cap : Array Value) (w : World), (Instr.makeFunc fn first cap).run Try.prog w = .ok (.func fn first cap) w := fun _ _ _ _ => rfl
  have hw := fun w => within_any deep 1 5 w (wf_i64 wf) (by omega) (by omega) (by omega)
  have hk := wth_bd (n := deep) (lo := 1) (hi := 5) (by omega)
  obtain ⟨k, hk'⟩ : ∃ k : Nat, wth deep 1 5 = k := ⟨(wth deep 1 5).toNat, by omega⟩
  rw [hk'] at hw hk
  have hk1 : 1 ≤ k := by omega
  have hk2 : k ≤ 5 := by omega
  have HW := Lib.hid hw
  clear hw hk hk' _wk _wa _wkb _wab wf
  go_enter Try.func3, Try.ntmps3
  go_wp2_with (go_at_call 14; (with_reducible refine (HW.out _).mono ?_); rintro e w' ⟨rfl, rfl⟩)
  have f0 : Fr (fun _ => False) w (((w.alloc (.cells #[.int .i64 K, .int .i64 A] 23)).alloc (.cells #[.int .i64 KB, .int .i64 AB] 23)).alloc (.cells #[.slice none 0 0] 24)) := (((Fr.refl _ _).alloc _).alloc _).alloc _
  have d0 : Blk (((w.alloc (.cells #[.int .i64 K, .int .i64 A] 23)).alloc (.cells #[.int .i64 KB, .int .i64 AB] 23)).alloc (.cells #[.slice none 0 0] 24)) w.heap.size #[.int .i64 K, .int .i64 A] 23 := ((Blk.at_new rfl).alloc _).alloc _
  have b0 : Blk (((w.alloc (.cells #[.int .i64 K, .int .i64 A] 23)).alloc (.cells #[.int .i64 KB, .int .i64 AB] 23)).alloc (.cells #[.slice none 0 0] 24)) (w.heap.size + 1) #[.int .i64 KB, .int .i64 AB] 23 := (Blk.at_new (by simp)).alloc _
  have s0 : Blk (((w.alloc (.cells #[.int .i64 K, .int .i64 A] 23)).alloc (.cells #[.int .i64 KB, .int .i64 AB] 23)).alloc (.cells #[.slice none 0 0] 24)) (w.heap.size + 1 + 1) #[.slice none 0 0] 24 := Blk.at_new (by simp)
  generalize (((w.alloc (.cells #[.int .i64 K, .int .i64 A] 23)).alloc (.cells #[.int .i64 KB, .int .i64 AB] 23)).alloc (.cells #[.slice none 0 0] 24)) = W at *
  obtain ⟨bd, hbd⟩ : ∃ bd, bd = w.heap.size := ⟨_, rfl⟩
  obtain ⟨bb, hbb⟩ : ∃ bb, bb = w.heap.size + 1 := ⟨_, rfl⟩
  obtain ⟨bs, hbs⟩ : ∃ bs, bs = w.heap.size + 1 + 1 := ⟨_, rfl⟩
  rw [← hbd] at d0
  rw [← hbb] at b0
  rw [← hbs] at s0
  rw [← hbs, ← hbb, ← hbd]
  have hbsw := Lib.hid (show w.heap.size ≤ bs by omega)
  have HF0 := Lib.hid f0
  have HD0 := Lib.hid d0
  have HB0 := Lib.hid b0
  have HS0 := Lib.hid s0
  clear f0 d0 b0 s0 hbd hbb hbs HW
  go_loopw [8, 10] (fun t8 t10 wr => LvRel w bd bs bb k K A KB AB t8 t10 wr) (fun _ t10 _ => (k + 1 - intOf t10).toNat)
  case atStart => exact ⟨0, fun _ => 0, fun _ => 0, _, _, by omega, rfl, rfl, rfl, ⟨HD0.out, fun i h => absurd h (by omega), fun i h => absurd h (by omega)⟩, HS0.out, HB0.out, HF0.out⟩
  case round =>
    obtain ⟨i, gb, jb, g, c, hi, rfl, rfl, hl, hL, hS, hB, hF⟩ := hrel
    have HL := Lib.hid hL
    have HS := Lib.hid hS
    have HB := Lib.hid hB
    have HF := Lib.hid hF
    have hi5 : (i : Int) ≤ 5 := by omega
    have hi0 : (0 : Int) ≤ (i : Int) := by omega
    clear HF0 HD0 HB0 HS0
    by_cases hik : i < k
    · have hik' : (i : Int) + 1 ≤ k := by omega
      have hik2 : (i : Int) < k := by omega
      clear hL hS hB hF
      go_wp2_with fail
      have f1 : Fr (fun _ => False) wr ((wr.alloc (.cells #[.func (.func g) #[] c] 1)).alloc (.cells #[.int .i64 ((i : Int) + 1)] 3)) := ((Fr.refl _ _).alloc _).alloc _
      have hlg := fun q (hq : q < i) => (HL.out.g q hq).lt
      have hlj := fun q (hq : q < i) => (HL.out.j q hq).lt
      refine ⟨⟨i + 1, upd gb i wr.heap.size, upd jb i (wr.heap.size + 1), _, _, by omega, by go_num, rfl, ?_, ⟨HL.out.d.fr f1 id, fun q hq => ?_, fun q hq => ?_⟩, HS.out.fr f1 id, HB.out.fr f1 id, HF.out.trans f1⟩, by simp [intOf]; omega⟩
      · show lvl _ _ _ _ (i + 1) = _
        simp only [lvl, upd_self]
      · by_cases e : q = i
        · subst e
          rw [upd_self, lvl_upd _ _ _ _ _ _ _ _ (Nat.le_refl _), hl]
          exact (Blk.at_new rfl).alloc _
        · rw [upd_ne _ _ e, lvl_upd _ _ _ _ _ _ _ _ (by omega)]
          exact (HL.out.g q (by omega)).fr f1 id
      · by_cases e : q = i
        · subst e
          rw [upd_self]
          exact Blk.at_new (by simp)
        · rw [upd_ne _ _ e]
          exact (HL.out.j q (by omega)).fr f1 id
    · have hik' : ¬ (i : Int) + 1 ≤ k := by omega
      have hik2 : ¬ (i : Int) < k := by omega
      obtain rfl : i = k := by omega
      clear hL hS hB hF
      go_wp2_with fail
      have f1 : Fr (fun _ => False) wr (wr.alloc (.cells #[.func (.func g) #[] c] 1)) := (Fr.refl _ _).alloc _
      have fg := (f1.trans (gworld_fr (wr.alloc (.cells #[.func (.func g) #[] c] 1)) (fun _ => False)))
      have g1 : Blk (wr.alloc (.cells #[.func (.func g) #[] c] 1)) wr.heap.size #[lvl bd bs gb jb i] 1 := by rw [hl]; exact Blk.at_new rfl
      have hbl := HS.out.lt
      refine (guard_does 19 _ _ (comb (outD K A) (outD KB AB)) (fun x => x = bs) _ (by rintro x rfl; simp; omega) (fun w => by simp [go_sem])
        (topDoes bd bs bb wr.heap.size gb jb K A KB AB i (by omega) _ (HL.out.fr fg (fun _ h => h.elim)) (HS.out.fr fg id) (g1.fr (gworld_fr _ (fun _ => False)) id) (HB.out.fr fg id))).mono ?_
      rintro e w2 ⟨rfl, f2, w1, ⟨v', b1, o1, hv1⟩, f3, f4⟩
      have hbne : bb ≠ bs := HB.out.ne HS.out (.inr (by decide))
      have hdne : bd ≠ bs := HL.out.d.ne HS.out (.inr (by decide))
      have D2 := ((HL.out.d.fr f1 id).fr f2 hdne)
      have B2 := ((HB.out.fr f1 id).fr f2 hbne)
      have S2 := b1.fr f4 (fun h => by simp at h; omega)
      have O2 := o1.fr f4 (fun q hq h => by have := hv1 q hq; rw [gworld_size] at this; omega)
      have F2 := (HF.out.trans f1).step f2 (fun q hq h => by have := hbsw.out; omega)
      obtain ⟨gv, cv, rfl, _⟩ : ∃ gv cv, v' = .slice (some ⟨gv, 0, none⟩) (i + 1 + 1) cv ∧ True := (O2.cases.elim (fun h => absurd h.2.1 (by omega)) (fun ⟨g, c, h, _⟩ => ⟨g, c, h, trivial⟩))
      have HT1 := Lib.hid (stops_any K A)
      have HT2 := Lib.hid (stops_any KB AB)
      clear f1 fg g1 f3 f4 b1 o1 hv1 HL HS HB HF f2 hl
      generalize outD K A = s1 at *
      generalize outD KB AB = s2 at *
      have HD2 := Lib.hid D2
      have HB2 := Lib.hid B2
      have HS2 := Lib.hid S2
      have HO2 := Lib.hid O2
      have HF2 := Lib.hid F2
      have d0 := D2.cell 0
      have d1 := D2.cell 1
      have dl := D2.lt
      clear D2 B2 S2 O2 F2
      have hlast : ∀ (e2 : Stp), e2 = s2 → Hid (e2 = s2) := fun _ h => h
      clear hlast
      cases s2
      all_goals
        simp only [comb, Stp.why_s, Stp.at_s, Stp.is_s, Stp.why_x, Stp.at_x, Stp.is_x, Stp.why_o, Stp.at_o, Stp.is_o] at HT2 ⊢
        go_wp2_with fail
        refine (HT1.out _).mono ?_
        rintro e w3 ⟨rfl, f3⟩
        have F3 := ((Fr.refl (fun _ => False) w2).alloc _).trans f3
        have BS3 := (Blk.new w2 _ _).fr f3 id
        have B3 := HB2.out.fr F3 id
        have O3 := HO2.out.fr F3 (fun _ _ => id)
        have S3 := HS2.out.fr F3 id
        have HF3 := Lib.hid (HF2.out.trans F3)
        have e0 := B3.cell 0
        have e1 := B3.cell 1
        have el := B3.lt
        have HBS3 := Lib.hid BS3
        have HB3 := Lib.hid B3
        have HO3 := Lib.hid O3
        have HS3 := Lib.hid S3
        clear f3 F3 BS3 B3 O3 S3 HB2 HO2 HS2 HD2 HF2 d0 d1 dl
        go_wp2_with fail
        refine (HT2.out _).mono ?_
        rintro e w5 ⟨rfl, f5⟩
        have F5 := ((Fr.refl (fun _ => False) w3).alloc _).trans f5
        have BX5 := (Blk.new w3 _ _).fr f5 id
        have BS5 := HBS3.out.fr F5 id
        have O5 := HO3.out.fr F5 (fun _ _ => id)
        have S5 := HS3.out.fr F5 id
        have HF5 := Lib.hid (HF3.out.trans F5)
        have x0 := BX5.cell 0
        have x1 := BX5.cell 1
        have xf := BX5.frozen
        have xl := BX5.lt
        have y0 := BS5.cell 0
        have y1 := BS5.cell 1
        have yl := BS5.lt
        have z0 := S5.cell 0
        have zl := S5.lt
        have gl := O5.lt (k := gv) rfl
        have gc := O5.cells' rfl
        have n1 : gv ≠ w3.heap.size := fun e => O5.ne BX5 (by decide) (by rw [← e]; rfl)
        have n2 : bs ≠ w3.heap.size := fun e => by have := HS3.out.lt; omega
        have n3 : w2.heap.size ≠ w3.heap.size := fun e => by have := HBS3.out.lt; omega
        have g0 := (gc 0 (by omega)).trans (seen_at i 0 (by omega))
        have g9 := (gc (i + 1) (by omega)).trans (seen_nine i)
        have HGC := Lib.hid gc
        clear gc O5 S5 BS5 BX5 f5 F5
        have hi9 : (0 : Int) ≤ (i : Int) + 1 := by omega
        have HR := Lib.hid haltRuns_any
        go_wp2_with fail
        go_loop [20] (fun t20 => ∃ j : Nat, 1 ≤ j ∧ j ≤ i + 1 ∧ t20 = .int .i64 j) (fun t20 => (i + 1 - intOf t20).toNat)
        case atStart => exact ⟨1, by omega, by omega, rfl⟩
        case round =>
          obtain ⟨j, hj1, hj2, rfl⟩ := hrel
          by_cases hji : j ≤ i
          · have hji' : (j : Int) ≤ i := by omega
            have hj3 : (j : Int) < ((i + 1 + 1 : Nat) : Int) := by omega
            have gj := (HGC.out j (by omega)).trans (seen_at i j hji)
            go_wp2_with fail
            go_round
            case rel => exact ⟨j + 1, by omega, by omega, by go_num⟩
            case measure => simp [intOf]; omega
          · have hji' : ¬ (j : Int) ≤ i := by omega
            go_wp2_with (go_at_call 22; refine (HR.out _).mono ?_; rintro e w8 ⟨rfl, f8⟩; have HF8 := Lib.hid f8; clear f8)
            go_ret
            have hle := HF3.out.size
            first
              | exact ⟨rfl, ((HF5.out.alloc _).trans HF8.out).below⟩
              | exact ⟨rfl, ((((HF5.out.setCell (p := ⟨w3.heap.size, 0, none⟩) (fun h => absurd h (Nat.not_lt.2 hle)) _).setCell (p := ⟨w3.heap.size, 1, none⟩) (fun h => absurd h (Nat.not_lt.2 hle)) _).alloc _).trans HF8.out).below⟩
end Go.Proofs.Ytoifefcbegdjdaa
