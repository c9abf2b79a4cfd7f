import Derived.Test.YtbjfgcabomgdbaaWordB
namespace Go.Proofs.Ytbjfgcabomgdbaa
open Go.RowKit

section
variable (vm bo m g k : Nat) (V : Nat → Int) (c : Int) (o : Int) (w : World) (h : Blk w vm #[.pointer (some ⟨m, 0, none⟩)] 46) (ho : Blk w bo #[.int .i64 o] 3) (M : Mem w m g k V c) (hk : (k : Int) ≤ o ∧ o ≤ 1000000)
include h ho M hk

theorem apart1 : Calls Try.prog 55 #[.pointer (some ⟨vm, 0, none⟩), .pointer (some ⟨bo, 0, none⟩)] w fun e w' => Tame (.stop 2 o) e ∧ Fr (fun _ => False) w w' := by
  have c0 := h.cell 0
  have c1 := ho.cell 0
  have hat := Lib.hid (mem_store_bad m g k V c o w M (.inr hk.1) 5)
  clear h M ho
  go_enter Try.func55, Try.ntmps55
  go_wp2_with (go_at_call 42; refine hat.out.mono ?_; rintro e w' ⟨rfl, rfl⟩)
  exact ⟨rfl, ⟨[], rfl, rfl⟩, Fr.refl _ _⟩

theorem apart2 : Calls Try.prog 56 #[.pointer (some ⟨vm, 0, none⟩), .pointer (some ⟨bo, 0, none⟩)] w fun e w' => Tame (.stop 2 (-1 - o)) e ∧ Fr (fun _ => False) w w' := by
  have c0 := h.cell 0
  have c1 := ho.cell 0
  obtain ⟨hk1, hk2⟩ := hk
  have hat := Lib.hid (mem_add_bad m g k V c (-1 - o) w M (.inl (by omega)) 5)
  clear h M ho
  go_enter Try.func56, Try.ntmps56
  go_wp2_with (go_at_call 43; refine hat.out.mono ?_; rintro e w' ⟨rfl, rfl⟩)
  exact ⟨rfl, ⟨[], rfl, rfl⟩, Fr.refl _ _⟩

theorem apart3 : Calls Try.prog 57 #[.pointer (some ⟨vm, 0, none⟩), .pointer (some ⟨bo, 0, none⟩)] w fun e w' => Tame (.stop 2 o) e ∧ Fr (fun _ => False) w w' := by
  have c0 := h.cell 0
  have c1 := ho.cell 0
  have hat := Lib.hid (mem_swap_bad m g k V c o w M (.inr hk.1) 5)
  clear h M ho
  go_enter Try.func57, Try.ntmps57
  go_wp2_with (go_at_call 44; refine hat.out.mono ?_; rintro e w' ⟨rfl, rfl⟩)
  exact ⟨rfl, ⟨[], rfl, rfl⟩, Fr.refl _ _⟩
end

def ApartRel (W : World) (vm m g s k len : Nat) (t8 : Value) (w : World) : Prop :=
  ∃ (i : Nat) (V : Nat → Int) (c : Nat), i ≤ 25 ∧ i ≤ len ∧ t8 = .int .i64 i ∧ c ≤ 13 * i ∧ Blk w vm #[.pointer (some ⟨m, 0, none⟩)] 46 ∧ Mem w m g k V c ∧ Arr w s k (fun j => .int .i64 (V j)) 3 ∧ Fr (fun x => x = m ∨ x = g ∨ x = s) W w

def SameRel (W : World) (vm m g s k c : Nat) (V : Nat → Int) (t104 : Value) (w : World) : Prop :=
  ∃ i : Nat, i ≤ k ∧ t104 = .int .i64 i ∧ Blk w vm #[.pointer (some ⟨m, 0, none⟩)] 46 ∧ Mem w m g k V (c + i : Nat) ∧ Arr w s k (fun j => .int .i64 (V j)) 3 ∧ Fr (fun x => x = m) W w

set_option maxHeartbeats 2000000 in
set_option maxRecDepth 100000 in
theorem wordApart_walk (n : Int) (a : Option Addr) (len cap : Nat) (V : Nat → Nat → Value) (w : World) (wf : (Lit.int .i64 n).wf = true) (s : IsSl [.int .i64, .int .i64, .int .i64] w a len cap V) :
    Calls Try.prog 11 #[.int .i64 n, .slice a len cap] w fun e w' => e = .returned (.bool true) ∧ Below w.heap.size w w' := by
  obtain ⟨hlc, hcm, hnil⟩ := s.cap
  obtain ⟨K, A, X, hK⟩ := Asks.of s
  have HK := Lib.hid hK
  have hw := within_any n 1 12 w (wf_i64 wf) (by omega) (by omega) (by omega)
  have hk := wth_bd (n := n) (lo := 1) (hi := 12) (by omega)
  obtain ⟨k, hk'⟩ : ∃ k : Nat, wth n 1 12 = k := ⟨(wth n 1 12).toNat, by omega⟩
  rw [hk'] at hw hk
  have hk1 : 1 ≤ k := by omega
  have hk2 : k ≤ 12 := by omega
  have HW := Lib.hid hw
  have hmk := made_int k (by omega)
  have hmf : ∀ (fn : Fn) (first cap : Array Value) (w : World), (Instr.makeFunc fn first cap).run Try.prog w = .ok (.func fn first cap) w := fun _ _ _ _ => rfl
  clear hK hw s wf hk' hk hnil
  go_enter Try.func11, Try.ntmps11
  go_wp2_with (first
    | (go_at_call 26; refine HW.out.mono ?_; rintro e w' ⟨rfl, rfl⟩)
    | (go_at_call 41; refine (mem_new k (by omega) _).mono ?_; rintro e w1 ⟨rfl, f1, M1⟩; have F1 := Lib.hid f1; have M1' := Lib.hid M1; clear f1 M1))
  have sz := F1.out.size
  have d3 : w.heap.size + 1 < w1.heap.size := M1'.out.h.lt
  have bv : Blk ((w1.alloc (.cells #[.pointer (some ⟨w.heap.size + 1, 0, none⟩)] 46)).alloc (.cells (madeCells #[.int .i64 0] k) 3)) w1.heap.size #[.pointer (some ⟨w.heap.size + 1, 0, none⟩)] 46 := (Blk.at_new rfl).alloc _
  have hs := Arr.at_new (w := w1.alloc (.cells #[.pointer (some ⟨w.heap.size + 1, 0, none⟩)] 46)) (b := w1.heap.size + 1) (t := 3) (.int .i64 0) k (by simp)
  have M1 := (M1'.out.alloc (.cells #[.pointer (some ⟨w.heap.size + 1, 0, none⟩)] 46)).alloc (.cells (madeCells #[.int .i64 0] k) 3)
  have f1 := (F1.out.alloc (.cells #[.pointer (some ⟨w.heap.size + 1, 0, none⟩)] 46)).alloc (.cells (madeCells #[.int .i64 0] k) 3)
  generalize ((w1.alloc (.cells #[.pointer (some ⟨w.heap.size + 1, 0, none⟩)] 46)).alloc (.cells (madeCells #[.int .i64 0] k) 3)) = W at *
  have hmm : ∃ m g s vm : Nat, m = w.heap.size + 1 ∧ g = w.heap.size ∧ vm = w1.heap.size ∧ s = w1.heap.size + 1 := ⟨_, _, _, _, rfl, rfl, rfl, rfl⟩
  obtain ⟨m, g, s, vm, hm, hg, hv, hs'⟩ := hmm
  rw [← hm, ← hg] at M1
  rw [← hs'] at hs
  rw [← hm, ← hv] at bv
  rw [← hs', ← hm, ← hv]
  have dgm : g ≠ m := by omega
  have dsm : s ≠ m := by omega
  have dsg : s ≠ g := by omega
  have dvm : vm ≠ m := by omega
  have dvg : vm ≠ g := by omega
  have dvs : vm ≠ s := by omega
  have hml : w.heap.size ≤ m := by omega
  have hgl : w.heap.size ≤ g := by omega
  have hsl : w.heap.size ≤ s := by omega
  have HM := Lib.hid M1
  have HS := Lib.hid hs
  have HB := Lib.hid bv
  have HF0 := Lib.hid f1
  clear HW M1' F1 M1 hs f1 hm hg hs' d3 sz hv bv
  go_loopw [8] (fun t8 wr => ApartRel W vm m g s k len t8 wr) (fun t8 _ => (25 - intOf t8).toNat)
  case atStart => exact ⟨0, fun _ => 0, 0, by omega, by omega, rfl, by omega, HB.out, HM.out, HS.out, Fr.refl _ _⟩
  case round =>
    obtain ⟨i, V, c, hi, hil, rfl, hcb, hB, hM, hS, hF⟩ := hrel
    have HM := Lib.hid hM
    have HS := Lib.hid hS
    have HF := Lib.hid hF
    have HB := Lib.hid hB
    have HR := Lib.hid wordRuns_any
    by_cases hr : i < len ∧ i < 25
    · obtain ⟨hr1, hr2⟩ := hr
      have hr1' : (i : Int) < len := by omega
      have hr2' : (i : Int) < 25 := by omega
      rcases HK.out.at (HF0.out.step hF (fun x hx h => by omega)) with h | ⟨b, off, rfl, hbw, hc⟩
      · omega
      obtain ⟨⟨hc0, _⟩, ⟨hc1, hbd⟩, ⟨hc2, hbx⟩⟩ := hc i hr1
      have hwb := wth_bd (n := A i) (lo := 0) (hi := (k : Int) - 1) (by omega)
      obtain ⟨j, hj⟩ : ∃ j : Nat, wth (A i) 0 ((k : Int) - 1) = j := ⟨(wth (A i) 0 ((k : Int) - 1)).toNat, by omega⟩
      have hwi := fun w => within_any (A i) 0 ((k : Int) - 1) w hbd (by omega) (by omega) (by omega)
      rw [hj] at hwb hwi
      have hjk : j < k := by omega
      have hjk' : (j : Int) < k := by omega
      have HWI := Lib.hid hwi
      have hwo := wth_bd (n := X i) (lo := 0) (hi := 9) (by omega)
      have HWX := Lib.hid (fun w => within_any (X i) 0 9 w hbx (by omega) (by omega) (by omega))
      have hs0 := HS.out.cell hjk
      have hs1 := HS.out.frozen
      have hs2 := HS.out.lt
      have cv := hB.cell 0
      have lv := hB.lt
      have hbr : b < wr.heap.size := Nat.lt_of_lt_of_le hbw (HF0.out.step hF (fun x hx h => by omega)).size
      clear hM hS hF hB hc hwb hj hwi hbd hbx
      go_wp2_with (go_at_call 26; refine (HWI.out _).mono ?_; rintro e w' ⟨rfl, rfl⟩)
      go_region_held3 (fun w' => w'.cell? ⟨b, off + i * 3 + 2, none⟩ = some (.int .i64 (X i)) ∧ w'.cell? ⟨vm, 0, none⟩ = some (.pointer (some ⟨m, 0, none⟩))) (first | exact ⟨by assumption, by assumption⟩)
        (first | (go_at_call 42; refine (mem_store _ _ k _ _ j _ HM.out.drew hjk (by omega) (X i)).mono ?_; rintro e w3 ⟨rfl, f3, M3⟩; have HM3 := Lib.hid M3; have HF3 := Lib.hid f3; have HS3 := Lib.hid (HS.out.drew.fr f3 (by omega)); have HB3 := Lib.hid (HB.out.drew.fr f3 (by omega)); have cv3 := HB3.out.cell 0; have hb3 := (World.cell?_of_block (f3.block b hbr (by omega))).trans hc2; have hs3 := HS3.out.cell hjk; have hs4 := HS3.out.frozen; have hs5 := HS3.out.lt; clear f3 M3))
      go_wp2_with fail
      have m4 : Mem (w3.setCell ⟨s, j, none⟩ (.int .i64 (X i))) m g k (upd V j (X i)) (c + 1 : Nat) := (HM3.out.other (by dsimp only; omega) (by dsimp only; omega) _).congr (fun _ _ => rfl) (by omega)
      have s4 : Arr (w3.setCell ⟨s, j, none⟩ (.int .i64 (X i))) s k (fun x => .int .i64 (upd V j (X i) x)) 3 := upd_comp (fun x => Value.int .i64 x) V j _ ▸ HS3.out.set j _
      have v4 : Blk (w3.setCell ⟨s, j, none⟩ (.int .i64 (X i))) vm #[.pointer (some ⟨m, 0, none⟩)] 46 := HB3.out.other (by dsimp only; omega) _
      have f4 : Fr (fun x => x = m ∨ x = g ∨ x = s) W (w3.setCell ⟨s, j, none⟩ (.int .i64 (X i))) := (HF.out.drew.step HF3.out (fun x hx h => by omega)).setCell (fun _ => .inr (.inr rfl)) _
      have c4 : (w3.setCell ⟨s, j, none⟩ (.int .i64 (X i))).cell? ⟨b, off + i * 3 + 2, none⟩ = some (.int .i64 (X i)) := (World.cell?_of_block ((Fr.set1 w3 s j (.int .i64 (X i))).block b (by have := HF3.out.size; simp at this; omega) (by omega))).trans hb3
      generalize (w3.setCell ⟨s, j, none⟩ (.int .i64 (X i))) = W4 at *
      have HM4 := Lib.hid m4
      have HS4 := Lib.hid s4
      have HV4 := Lib.hid v4
      have HF4 := Lib.hid f4
      have hv0 := v4.cell 0
      have hv1 := v4.lt
      clear m4 s4 v4 f4 HM3 HS3 HB3 HF3 hs0 hs1 hs2 hs3 hs4 hs5 cv3 hb3 cv lv hbr hc2
      obtain ⟨o, ho⟩ : ∃ o : Int, o = (k : Int) + wth (X i) 0 9 := ⟨_, rfl⟩
      have ho1 : (k : Int) ≤ o ∧ o ≤ 1000000 := by omega
      have Ho := Lib.hid ho
      refine (mem_count _ _ _ _ _ _ HM4.out).mono ?_
      rintro e w' ⟨rfl, rfl⟩
      go_wp2_with (go_at_call 26; refine (HWX.out _).mono ?_; rintro e w' ⟨rfl, rfl⟩)
      rw [← Ho.out]
      clear ho hwo
      have gf := fun W => gworld_fr W (fun _ => False)
      refine (guard_plain 55 _ _ (.stop 2 o) (fun w => by simp [go_sem]) (apart1 vm _ m g k (upd V j (X i)) (c + 1 : Nat) o _ ((HV4.out.alloc _).fr (gf _) id) ((Blk.at_new rfl).fr (gf _) id) ((HM4.out.alloc _).fr (gf _) id id) ho1)).mono ?_
      rintro e w6 ⟨rfl, f6⟩
      have v6 := (HV4.out.alloc _).fr f6 id
      have o6 := Blk.fr (Blk.at_new (c := #[.int .i64 o]) (t := 3) rfl) f6 id
      have m6 := (HM4.out.alloc _).fr f6 id id
      have s6 := (HS4.out.alloc _).fr f6 id
      have f6' := (HF4.out.alloc _).step f6 (fun _ _ h => h.elim)
      have HV6 := Lib.hid v6
      have HO6 := Lib.hid o6
      have HM6 := Lib.hid m6
      have HS6 := Lib.hid s6
      have HF6 := Lib.hid f6'
      clear v6 o6 m6 s6 f6' f6 hv0 hv1
      simp only [Stp.why_s, Stp.at_s, Stp.is_s]
      go_wp2_with fail
      refine (guard_plain 56 _ _ (.stop 2 (-1 - o)) (fun w => by simp [go_sem]) (apart2 vm _ m g k (upd V j (X i)) (c + 1 : Nat) o _ ((HV6.out.alloc _).fr (gf _) id) ((HO6.out.alloc _).fr (gf _) id) ((HM6.out.alloc _).fr (gf _) id id) ho1)).mono ?_
      rintro e w7 ⟨rfl, f7⟩
      have HV7 := Lib.hid ((HV6.out.alloc _).fr f7 id)
      have HO7 := Lib.hid ((HO6.out.alloc _).fr f7 id)
      have HM7 := Lib.hid ((HM6.out.alloc _).fr f7 id id)
      have HS7 := Lib.hid ((HS6.out.alloc _).fr f7 id)
      have HF7 := Lib.hid ((HF6.out.alloc _).step f7 (fun _ _ h => h.elim))
      clear f7
      simp only [Stp.why_s, Stp.at_s, Stp.is_s]
      go_wp2_with fail
      refine (guard_plain 57 _ _ (.stop 2 o) (fun w => by simp [go_sem]) (apart3 vm _ m g k (upd V j (X i)) (c + 1 : Nat) o _ ((HV7.out.alloc _).fr (gf _) id) ((HO7.out.alloc _).fr (gf _) id) ((HM7.out.alloc _).fr (gf _) id id) ho1)).mono ?_
      rintro e w8 ⟨rfl, f8⟩
      have HV8 := Lib.hid ((HV7.out.alloc _).fr f8 id)
      have HM8 := Lib.hid ((HM7.out.alloc _).fr f8 id id)
      have HS8 := Lib.hid ((HS7.out.alloc _).fr f8 id)
      have HF8 := Lib.hid ((HF7.out.alloc _).step f8 (fun _ _ h => h.elim))
      have cv8 := HV8.out.cell 0
      have lv8 := HV8.out.lt
      clear f8
      simp only [Stp.why_s, Stp.at_s, Stp.is_s]
      go_wp2_with (go_at_call 47; refine (mem_count _ _ _ _ _ _ (HM8.out.alloc _)).mono ?_; rintro e w9 ⟨rfl, rfl⟩)
      go_loopw [104] (fun t104 w2 => SameRel (w8.alloc (.cells #[.int .i64 2, .int .i64 o] 23)) vm m g s k (c + 1) (upd V j (X i)) t104 w2) (fun t104 _ => (k - intOf t104).toNat)
      case atStart => exact ⟨0, by omega, rfl, HV8.out.alloc _, (HM8.out.alloc _).congr (fun _ _ => rfl) rfl, HS8.out.alloc _, Fr.refl _ _⟩
      case round =>
        obtain ⟨q, hq, rfl, hV, hM, hS, hF⟩ := hrel
        have HV9 := Lib.hid hV
        have HM9 := Lib.hid hM
        have HS9 := Lib.hid hS
        have HF9 := Lib.hid hF
        generalize upd V j (X i) = U at *
        by_cases hqk : q < k
        · have hqk' : (q : Int) < k := by omega
          have hv9 := hV.cell 0
          have hl9 := hV.lt
          have hs9 := hS.cell hqk
          have hls := hS.lt
          clear hM hV hS hF
          go_wp2_with fail
          go_region_held3 (fun w' => w'.cell? ⟨s, q, none⟩ = some (.int .i64 (U q)) ∧ w'.cell? ⟨vm, 0, none⟩ = some (.pointer (some ⟨m, 0, none⟩))) (first | exact ⟨by assumption, by assumption⟩)
            (first | (go_at_call 45; refine (mem_load _ _ k _ _ q _ HM9.out.drew hqk (by omega)).mono ?_; rintro e w3 ⟨rfl, f3, M3⟩; have HMa := Lib.hid M3; have HSa := Lib.hid (HS9.out.drew.fr f3 (by omega)); have HVa := Lib.hid (HV9.out.drew.fr f3 (by omega)); have HFa := Lib.hid (HF9.out.drew.trans f3); have csa := HSa.out.cell hqk; have cva := HVa.out.cell 0; clear f3 M3))
          go_wp2_with fail
          exact ⟨⟨q + 1, by omega, by go_num, HVa.out, HMa.out.congr (fun _ _ => rfl) (by omega), HSa.out, HFa.out⟩, by simp [intOf]; omega⟩
        · have hqk' : ¬ (q : Int) < k := by omega
          clear hM hV hS hF
          go_wp2_with fail
          exact ⟨⟨i + 1, U, c + 1 + q, by omega, by omega, by go_num, by omega, HV9.out, HM9.out, HS9.out, (HF8.out.alloc _).step HF9.out (fun x hx h => .inl h)⟩, by simp [intOf]; omega⟩
    · clear hM hS hF hB
      have hb0 := HB.out.cell 0
      have hl0 := HB.out.lt
      rcases (show ¬ (i : Int) < len ∨ ((i : Int) < len ∧ ¬ (i : Int) < 25) by omega) with hx | ⟨hx, hy⟩
      all_goals
        go_wp2_with (first
          | (go_at_call 54; refine (mem_len _ _ _ _ _ _ HM.out).mono ?_; rintro e w7 ⟨rfl, rfl⟩)
          | (go_at_call 8; refine (HR.out _).mono ?_; rintro e w8 ⟨rfl, f8⟩; have HF8 := Lib.hid f8; clear f8))
        go_ret
        exact ⟨rfl, ((HF0.out.step HF.out (fun x hx h => by omega)).step HF8.out (fun _ _ h => h)).below⟩
end Go.Proofs.Ytbjfgcabomgdbaa
