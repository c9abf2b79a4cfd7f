import Derived.Test.YtbjfgcabomgdbaaWordA
import Derived.Test.YtbjfgcabomgdbaaWithin
import Derived.Test.YtbjfgcabomgdbaaAsk
import Derived.RegionTactic
import Derived.IntWalk
namespace Go.Proofs.Ytbjfgcabomgdbaa
open Go.RowKit

theorem Mem.other {w : World} {m g n : Nat} {V : Nat → Int} {c : Int} (h : Mem w m g n V c) {p : Addr} (h1 : p.block ≠ m) (h2 : p.block ≠ g) (v : Value) : Mem (w.setCell p v) m g n V c := ⟨h.h.other h1 v, h.a.other h2 v⟩
theorem Mem.congr {w : World} {m g n : Nat} {V U : Nat → Int} {c d : Int} (h : Mem w m g n V c) (e : ∀ i, i < n → V i = U i) (hc : c = d) : Mem w m g n U d := ⟨hc ▸ h.h, h.a.congr fun i hi => by rw [e i hi]⟩

/-- one place on, and 7 ahead -/
def shift (S : Nat → Int) (j : Nat) : Int := if j = 0 then 7 else S (j - 1)
/-- .. as far as i -/
def shifted (S : Nat → Int) (i j : Nat) : Int := if j < i then shift S j else S j
theorem shifted_self (S : Nat → Int) (i : Nat) : shifted S i i = S i := by simp [shifted]
theorem shifted_next (S : Nat → Int) (i j : Nat) : upd (shifted S i) i (shift S i) j = shifted S (i + 1) j := by
  unfold upd shifted
  by_cases h : j = i
  · subst h; simp
  · rw [if_neg h]
    by_cases h2 : j < i
    · rw [if_pos h2, if_pos (by omega)]
    · rw [if_neg h2, if_neg (by omega)]
theorem shift_next (S : Nat → Int) (i : Nat) : shift S (i + 1) = S i := by simp [shift]
theorem shift_zero (S : Nat → Int) : shift S 0 = 7 := rfl
theorem shifted_all (S : Nat → Int) (k j : Nat) (h : j < k) : shifted S k j = shift S j := by simp [shifted, h]

def SwapRel (W : World) (m g s k N : Nat) (S : Nat → Int) (t10 t68 : Value) (w : World) : Prop :=
  ∃ i : Nat, i ≤ k ∧ t68 = .int .i64 i ∧ t10 = .int .i64 (shift S i) ∧ Mem w m g k (shifted S i) (N + i : Nat) ∧ Arr w s k (fun j => .int .i64 (S j)) 3 ∧ Fr (fun x => x = m ∨ x = g) W w

def LoadRel (W : World) (m g s k N : Nat) (S : Nat → Int) (t84 : Value) (w : World) : Prop :=
  ∃ i : Nat, i ≤ k ∧ t84 = .int .i64 i ∧ Mem w m g k (shift S) (N + i : Nat) ∧ Arr w s k (fun j => .int .i64 (S j)) 3 ∧ Fr (fun x => x = m ∨ x = g) W w

/-- the words and their sums, behind i additions -/
def SumRel (W : World) (m g s k len : Nat) (t8 : Value) (w : World) : Prop :=
  ∃ (i : Nat) (V : Nat → Int), i ≤ 50 ∧ i ≤ len ∧ t8 = .int .i64 i ∧ Mem w m g k V i ∧ Arr w s k (fun j => .int .i64 (V j)) 3 ∧ Fr (fun x => x = m ∨ x = g ∨ x = s) W w

set_option maxHeartbeats 2000000 in
set_option maxRecDepth 100000 in
theorem wordSum_walk (n : Int) (a : Option Addr) (len cap : Nat) (V : Nat → Nat → Value) (w : World) (wf : (Lit.int .i64 n).wf = true) (s : IsSl [.int .i64, .int .i64, .int .i64] w a len cap V) :
    Calls Try.prog 9 #[.int .i64 n, .slice a len cap] w fun e w' => e = .returned (.bool true) ∧ Below w.heap.size w w' := by
  obtain ⟨hlc, hcm, hnil⟩ := s.cap
  obtain ⟨K, A, X, hK⟩ := Asks.of s
  have HK := Lib.hid hK
  have hw := within_any n 1 20 w (wf_i64 wf) (by omega) (by omega) (by omega)
  have hk := wth_bd (n := n) (lo := 1) (hi := 20) (by omega)
  obtain ⟨k, hk'⟩ : ∃ k : Nat, wth n 1 20 = k := ⟨(wth n 1 20).toNat, by omega⟩
  rw [hk'] at hw hk
  have hk1 : 1 ≤ k := by omega
  have hk2 : k ≤ 20 := by omega
  have HW := Lib.hid hw
  have hmk := made_int k (by omega)
  have HN := Lib.hid hnil
  clear hK hw s wf hk' hk hnil
  go_enter Try.func9, Try.ntmps9
  go_wp2_with (first
    | (go_at_call 26; refine HW.out.mono ?_; rintro e w' ⟨rfl, rfl⟩)
    | (go_at_call 41; refine (mem_new k (by omega) _).mono ?_; rintro e w1 ⟨rfl, f1, M1⟩; have F1 := Lib.hid f1; have M1' := Lib.hid M1; clear f1 M1))
  have hs := Arr.at_new (w := w1) (t := 3) (.int .i64 0) k rfl
  have M1 := M1'.out.alloc (.cells (madeCells #[.int .i64 0] k) 3)
  have f1 := F1.out.alloc (.cells (madeCells #[.int .i64 0] k) 3)
  have d1 : w1.heap.size ≠ w.heap.size := fun h => by have := M1'.out.h.lt; omega
  have d2 : w1.heap.size ≠ w.heap.size + 1 := fun h => by have := M1'.out.h.lt; omega
  have d3 : w.heap.size < w1.heap.size := M1'.out.a.lt
  have hsz : (w1.alloc (.cells (madeCells #[.int .i64 0] k) 3)).heap.size = w1.heap.size + 1 := by simp
  generalize (w1.alloc (.cells (madeCells #[.int .i64 0] k) 3)) = W at *
  have hmm : ∃ m g s : Nat, m = w.heap.size + 1 ∧ g = w.heap.size ∧ s = w1.heap.size := ⟨_, _, _, rfl, rfl, rfl⟩
  obtain ⟨m, g, s, hm, hg, hs'⟩ := hmm
  rw [← hm, ← hg] at M1
  rw [← hs'] at hs
  rw [← hm, ← hs']
  have dgm : g ≠ m := by omega
  have dsm : s ≠ m := by omega
  have dsg : s ≠ g := by omega
  have hml : w.heap.size ≤ m := by omega
  have hgl : w.heap.size ≤ g := by omega
  have hsl : w.heap.size ≤ s := by omega
  have HM := Lib.hid M1
  have HS := Lib.hid hs
  have HF0 := Lib.hid f1
  clear HW M1' F1 M1 hs f1 hm hg hs' d1 d2 d3 hsz
  go_loopw [8] (fun t8 wr => SumRel W m g s k len t8 wr) (fun t8 _ => (50 - intOf t8).toNat)
  case atStart => exact ⟨0, fun _ => 0, by omega, by omega, rfl, HM.out, HS.out, Fr.refl _ _⟩
  case round =>
    obtain ⟨i, V, hi, hil, rfl, hM, hS, hF⟩ := hrel
    have HM := Lib.hid hM
    have HS := Lib.hid hS
    have HF := Lib.hid hF
    by_cases hr : i < len ∧ i < 50
    · obtain ⟨hr1, hr2⟩ := hr
      have hr1' : (i : Int) < len := by omega
      have hr2' : (i : Int) < 50 := by omega
      rcases HK.out.at (HF0.out.step hF (fun x hx h => by omega)) with h | ⟨b, off, rfl, hbw, hc⟩
      · omega
      obtain ⟨⟨hc0, _⟩, ⟨hc1, hbd⟩, ⟨hc2, _⟩⟩ := hc i hr1
      have hwb := wth_bd (n := A i) (lo := 0) (hi := (k : Int) - 1) (by omega)
      obtain ⟨j, hj⟩ : ∃ j : Nat, wth (A i) 0 ((k : Int) - 1) = j := ⟨(wth (A i) 0 ((k : Int) - 1)).toNat, by omega⟩
      have hwi := fun w => within_any (A i) 0 ((k : Int) - 1) w hbd (by omega) (by omega) (by omega)
      rw [hj] at hwb hwi
      have hjk : j < k := by omega
      have hjk' : (j : Int) < k := by omega
      have HWI := Lib.hid hwi
      have hs0 := HS.out.cell hjk
      have hs1 := HS.out.frozen
      have hs2 := HS.out.lt
      have dgm' := dgm
      have hbr : b < wr.heap.size := Nat.lt_of_lt_of_le hbw (HF0.out.step hF (fun x hx h => by omega)).size
      clear hM hS hF hc hwb hj hwi hbd
      go_wp2_with (go_at_call 26; refine (HWI.out _).mono ?_; rintro e w' ⟨rfl, rfl⟩)
      have hwr : IntKind.i64.wrap (V j + X i) = wadd (V j) (X i) := IntWalk.i64_left _
      go_region_held3 (fun w' => w'.cell? ⟨b, off + i * 3 + 2, none⟩ = some (.int .i64 (X i)) ∧ w'.cell? ⟨s, j, none⟩ = some (.int .i64 (V j))) (first | exact ⟨by assumption, by assumption⟩)
        (first | (go_at_call 43; refine (mem_add _ _ k _ _ j _ HM.out.drew hjk (by omega) (X i)).mono ?_; rintro e w3 ⟨rfl, f3, M3⟩; have HM3 := Lib.hid M3; have HF3 := Lib.hid f3; have HS3 := Lib.hid (HS.out.drew.fr f3 (by omega)); have hb3 := (World.cell?_of_block (f3.block b hbr (by omega))).trans hc2; have hs3 := HS3.out.cell hjk; have hs4 := HS3.out.frozen; have hs5 := HS3.out.lt; clear f3 M3))
      all_goals go_wp2_with fail
      all_goals go_region
      all_goals go_wp2_with fail
      all_goals
        refine ⟨⟨i + 1, upd V j (wadd (V j) (X i)), by omega, by omega, by go_num, ?_, ?_, ?_⟩, by simp [intOf]; omega⟩
        · exact ((HM3.out.other (by dsimp only; omega) (by dsimp only; omega) _).congr (fun _ _ => rfl) (by omega)).drew
        · exact upd_comp (fun x => Value.int .i64 x) V j _ ▸ (HS3.out.set j _).drew
        · exact ((HF.out.drew.step HF3.out (fun x hx h => by omega)).setCell (fun _ => .inr (.inr rfl)) _).drew
    · have he := Lib.hid (show i = min len 50 by omega)
      clear hM hS hF
      rcases (show ¬ (i : Int) < len ∨ ((i : Int) < len ∧ ¬ (i : Int) < 50) by omega) with hx | ⟨hx, hy⟩
      all_goals go_wp2_with fail
      all_goals
        go_loopw [10, 68] (fun t10 t68 w2 => SwapRel wr m g s k i V t10 t68 w2) (fun _ t68 _ => (k - intOf t68).toNat)
        case atStart => exact ⟨0, by omega, rfl, rfl, HM.out.congr (fun j _ => rfl) rfl, HS.out, Fr.refl _ _⟩
        case round =>
          obtain ⟨p, hp, rfl, rfl, hM, hS, hF⟩ := hrel
          have HM2 := Lib.hid hM
          have HS2 := Lib.hid hS
          have HF2 := Lib.hid hF
          have hi50 := hi
          clear hi hx
          by_cases hpk : p < k
          · have hpk' : (p : Int) < k := by omega
            have hsw := Lib.hid (mem_swap m g k _ _ p _ hM hpk (by omega) (shift V p))
            have hsp := shifted_self V p
            have HSN := Lib.hid (shift_next V p)
            clear hM hS hF
            go_wp2_with (go_at_call 44; refine hsw.out.mono ?_; rintro e w3 ⟨rfl, f3, M3⟩; rw [hsp]; have HM3 := Lib.hid M3; have HF3 := Lib.hid f3; have HS3 := Lib.hid (HS2.out.fr f3 (by omega)); have hs3 := HS3.out.cell hpk; clear f3 M3)
            exact ⟨⟨p + 1, by omega, by go_num, by rw [HSN.out], HM3.out.congr (fun j _ => shifted_next V p j) (by omega), HS3.out, HF2.out.trans HF3.out⟩, by simp [intOf]; omega⟩
          · have hpk' : ¬ (p : Int) < k := by omega
            have hpe := Lib.hid (show p = k by omega)
            have HA := Lib.hid (shifted_all V k)
            clear hM hS hF hp hpk
            go_wp2_with fail
            go_loopw [84] (fun t84 w2 => LoadRel wr m g s k (i + k) V t84 w2) (fun t84 _ => (k - intOf t84).toNat)
            case atStart =>
              obtain rfl := hpe.out
              exact ⟨0, by omega, rfl, HM2.out.congr (fun j hj => HA.out j hj) (by omega), HS2.out, Fr.refl _ _⟩
            case round =>
              obtain ⟨q, hq, rfl, hM, hS, hF⟩ := hrel
              have HM4 := Lib.hid hM
              have HS4 := Lib.hid hS
              have HF4 := Lib.hid hF
              by_cases hqk : q < k
              · have hld := Lib.hid (mem_load m g k _ _ q _ hM hqk (by omega))
                have hqk' : (q : Int) < k := by omega
                rcases Nat.eq_zero_or_pos q with rfl | hq0
                · have hz := shift_zero V
                  clear hM hS hF
                  go_wp2_with (go_at_call 45; refine hld.out.mono ?_; rintro e w5 ⟨rfl, f5, M5⟩; rw [hz]; have HM5 := Lib.hid M5; have HF5 := Lib.hid f5; have HS5 := Lib.hid (HS4.out.fr f5 (by omega)); clear f5 M5)
                  exact ⟨⟨1, by omega, rfl, HM5.out.congr (fun _ _ => rfl) (by omega), HS5.out, HF4.out.step HF5.out (fun _ _ h => .inl h)⟩, by simp [intOf]; omega⟩
                · obtain ⟨r, rfl⟩ : ∃ r, q = r + 1 := ⟨q - 1, by omega⟩
                  have hr0 : (0 : Int) < ((r + 1 : Nat) : Int) := by omega
                  have hr1 : ((r + 1 : Nat) : Int) - 1 = r := by omega
                  have hrk : (r : Int) < k := by omega
                  have hz := shift_next V r
                  have hsr := hS.cell (i := r) (by omega)
                  clear hM hS hF
                  go_wp2_with (go_at_call 45; refine hld.out.mono ?_; rintro e w5 ⟨rfl, f5, M5⟩; rw [hz]; have HM5 := Lib.hid M5; have HF5 := Lib.hid f5; have HS5 := Lib.hid (HS4.out.fr f5 (by omega)); clear f5 M5)
                  exact ⟨⟨r + 1 + 1, by omega, by go_num, HM5.out.congr (fun _ _ => rfl) (by omega), HS5.out, HF4.out.step HF5.out (fun _ _ h => .inl h)⟩, by simp [intOf]; omega⟩
              · have hqk' : ¬ (q : Int) < k := by omega
                have hqe := Lib.hid (show q = k by omega)
                clear hM hS hF hq hqk
                go_wp2_with fail
                have h2k : IntKind.i64.wrap (2 * (k : Int)) = 2 * (k : Int) := IntWalk.i64_in _ (by omega)
                have HR := Lib.hid wordRuns_any
                rcases Nat.lt_or_ge 50 len with h50 | h50
                · have h50' : (50 : Int) < len := by omega
                  obtain rfl : i = 50 := by have := he.out; omega
                  have hic : (50 : Int) ≤ cap := by omega
                  have hsum : IntKind.i64.wrap (50 + 2 * (k : Int)) = ((50 + k + q : Nat) : Int) := (IntWalk.i64_in _ (by omega)).trans (by have := hqe.out; omega)
                  go_region_held3 (fun w' => True) (trivial)
                    (first
                    | (go_at_call 47; refine (mem_count _ _ _ _ _ _ HM4.out.drew).mono ?_; rintro e w7 ⟨rfl, rfl⟩)
                    | (go_at_call 8; refine (HR.out _).mono ?_; rintro e w8 ⟨rfl, f8⟩; have HF8 := Lib.hid f8; clear f8))
                  all_goals go_wp2_with fail
                  all_goals go_ret
                  all_goals exact ⟨rfl, ((((HF0.out.step HF.out (fun x hx h => by omega)).step HF2.out (fun x hx h => by omega)).step HF4.out (fun x hx h => by omega)).drew.step HF8.out (fun _ _ h => h)).below⟩
                · have h50' : ¬ (50 : Int) < len := by omega
                  obtain rfl : i = len := by have := he.out; omega
                  have hic : (i : Int) ≤ cap := by omega
                  have hmin : (if (50 : Int) < (i : Int) then (50 : Int) else (i : Int)) = (i : Int) := if_neg h50'
                  have hmf : ((50 : Int) < (i : Int)) = False := eq_false h50'
                  have hi0 : (0 : Int) ≤ i := by omega
                  have hsum : IntKind.i64.wrap (i + 2 * (k : Int)) = ((i + k + q : Nat) : Int) := (IntWalk.i64_in _ (by omega)).trans (by have := hqe.out; omega)
                  go_region_held3 (fun w' => True) (trivial)
                    (first
                    | (go_at_call 47; refine (mem_count _ _ _ _ _ _ HM4.out.drew).mono ?_; rintro e w7 ⟨rfl, rfl⟩)
                    | (go_at_call 8; refine (HR.out _).mono ?_; rintro e w8 ⟨rfl, f8⟩; have HF8 := Lib.hid f8; clear f8))
                  all_goals go_wp2_with fail
                  all_goals go_ret
                  all_goals exact ⟨rfl, ((((HF0.out.step HF.out (fun x hx h => by omega)).step HF2.out (fun x hx h => by omega)).step HF4.out (fun x hx h => by omega)).drew.step HF8.out (fun _ _ h => h)).below⟩
end Go.Proofs.Ytbjfgcabomgdbaa
