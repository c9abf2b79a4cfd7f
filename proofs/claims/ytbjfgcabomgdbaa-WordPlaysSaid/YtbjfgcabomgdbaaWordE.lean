import Derived.Test.YtbjfgcabomgdbaaWordD
import Derived.Deep.QuietTactic
import Derived.Deep.CutRange
import Derived.BigQuiet
namespace Go.Proofs.Ytbjfgcabomgdbaa
open Go.RowKit

theorem Mem.drewN {w : World} {m g n : Nat} {V : Nat → Int} {c : Int} (h : Mem w m g n V c) (q : Nat) : Mem (w.drewN q) m g n V c := ⟨h.h, h.a⟩

theorem wp_last {P : Program} {c : Code} {K : Act → World → Prop} {Q : Exit → Act → World → Prop} {id : Nat} {a : Act} {w : World} (h : c.wp P (Exit.then K (Exit.inBlock id (Exit.then K Q))) a w) : c.wp P (Exit.inBlock id (Exit.then K Q)) a w :=
  Code.wp_mono (fun e a w h => by cases e <;> exact h) h

theorem Acc.stp {n : Nat} {V : Nat → Int} {K A X : Int} {U : Nat → Int} {got : Int} {d : Nat} {s : Stp} (h : Acc n V K A X U got d s) : d ≤ 1 ∧ (s = .ok ∨ s = .stop 2 A) := by
  cases h <;> simp

structure PlayMid (W : World) (bn vm bq bs m g r g2 k c : Nat) (U : Nat → Int) (K A X got : Int) (st : Stp) (w : World) : Prop where
  hn : Blk w bn #[.int .i64 k] 3
  hv : Blk w vm #[.pointer (some ⟨m, 0, none⟩)] 46
  hq : Blk w bq #[.int .i64 K, .int .i64 A, .int .i64 X] 53
  ho : Blk w (bq + 1) #[.int .i64 got] 3
  hs : Blk w bs #[.int .i64 st.why, .int .i64 st.at] 23
  hm : ∃ x : Int, x = c ∧ Mem w m g k U x
  hr : ∃ x y : Int, x = c ∧ y = (if st.is then 2 else 0) ∧ RefM w r g2 k U x y
  hf : Fr (fun x => x = m ∨ x = g ∨ x = r ∨ x = g2) W w

def PlayCut (W : World) (bn vm bq bs m g r g2 k c : Nat) (U : Nat → Int) (K A X got : Int) (st : Stp) (t13 : Value) (w : World) : Prop :=
  t13 = .int .i64 got ∧ PlayMid W bn vm bq bs m g r g2 k c U K A X got st w

theorem RefM.drewN {w : World} {r g n : Nat} {V : Nat → Int} {c y : Int} (h : RefM w r g n V c y) (q : Nat) : RefM (w.drewN q) r g n V c y := ⟨h.h, h.a⟩
theorem Blk.drewN {w : World} {b : Nat} {c : Array Value} {t : TypeId} (h : Blk w b c t) (q : Nat) : Blk (w.drewN q) b c t := h
theorem Fr.drewN {S : Nat → Prop} {a w : World} (h : Fr S a w) (q : Nat) : Fr S a (w.drewN q) := ⟨h.os, h.tape, h.output, h.size, h.block⟩

def PlaysRel (W : World) (bn vm m g r g2 k len : Nat) (t10 : Value) (w : World) : Prop :=
  ∃ (i : Nat) (V : Nat → Int) (c : Nat) (y : Int), i ≤ 60 ∧ i ≤ len ∧ t10 = .int .i64 i ∧ c ≤ i ∧ Blk w bn #[.int .i64 k] 3 ∧ Blk w vm #[.pointer (some ⟨m, 0, none⟩)] 46 ∧ Mem w m g k V c ∧ RefM w r g2 k V c y ∧ Fr (fun x => x = m ∨ x = g ∨ x = r ∨ x = g2) W w

def LastRel (W : World) (bn vm m g r g2 k : Nat) (V : Nat → Int) (c : Nat) (t16 : Value) (w : World) : Prop :=
  ∃ i : Nat, i ≤ k ∧ i ≤ 70 ∧ t16 = .int .i64 i ∧ Blk w bn #[.int .i64 k] 3 ∧ Blk w vm #[.pointer (some ⟨m, 0, none⟩)] 46 ∧ Mem w m g k V (c + i : Nat) ∧ (∃ e y, RefM w r g2 k V e y) ∧ Fr (fun x => x = m) W w

set_option maxHeartbeats 2000000 in
set_option maxRecDepth 100000 in
theorem wordPlays_bad (n : Int) (a : Option Addr) (len cap : Nat) (w : World) (hn : n < 0 ∨ 4096 < n) :
    Calls Try.prog 10 #[.int .i64 n, .slice a len cap] w fun e w' => e = .returned (.bool true) ∧ Below w.heap.size w w' := by
  have hmf : ∀ (fn : Fn) (first cap : Array Value) (w : World), (Instr.makeFunc fn first cap).run Try.prog w = .ok (.func fn first cap) w := fun _ _ _ _ => rfl
  have HP := Lib.hid (plays1_bad w.heap.size (w.heap.size + 1) n hn)
  have HR := Lib.hid wordRuns_any
  have hn' : n < 0 ∨ (¬ n < 0 ∧ 4096 < n) := by omega
  clear hn
  go_enter Try.func10, Try.ntmps10
  go_wp2_with fail
  have f0 : Fr (fun _ => False) w ((w.alloc (.cells #[.int .i64 n] 3)).alloc (.cells #[.pointer none] 46)) := ((Fr.refl _ _).alloc _).alloc _
  have b0 : Blk ((w.alloc (.cells #[.int .i64 n] 3)).alloc (.cells #[.pointer none] 46)) w.heap.size #[.int .i64 n] 3 := (Blk.at_new rfl).alloc _
  generalize ((w.alloc (.cells #[.int .i64 n] 3)).alloc (.cells #[.pointer none] 46)) = W at *
  refine (guard_plain 48 _ _ (.stop 2 n) (fun w => by simp [go_sem]) (HP.out _ (b0.fr (gworld_fr _ (fun _ => False)) id))).mono ?_
  rintro e w2 ⟨rfl, f2⟩
  have hb := b0.fr f2 id
  have c0 := hb.cell 0
  have l0 := hb.lt
  have HF := Lib.hid (f0.trans f2)
  clear b0 f0 f2 hb
  simp only [Stp.why_s, Stp.at_s, Stp.is_s]
  rcases hn' with hn | ⟨hn, hn2⟩
  all_goals
    go_wp2_with (go_at_call 8; refine (HR.out _).mono ?_; rintro e w8 ⟨rfl, f8⟩; have HF8 := Lib.hid f8; clear f8)
    go_ret
    exact ⟨rfl, ((HF.out.alloc _).step HF8.out (fun _ _ h => h)).below⟩

set_option maxHeartbeats 2000000 in
set_option maxRecDepth 100000 in
theorem wordPlays_good (k : Nat) (hk : k ≤ 4096) (a : Option Addr) (len cap : Nat) (V : Nat → Nat → Value) (w : World) (s : IsSl [.int .i64, .int .i64, .int .i64] w a len cap V) :
    Calls Try.prog 10 #[.int .i64 k, .slice a len cap] w fun e w' => e = .returned (.bool true) ∧ Below w.heap.size w w' := by
  obtain ⟨hlc, hcm, hnil⟩ := s.cap
  obtain ⟨K, A, X, hK⟩ := Asks.of s
  have HK := Lib.hid hK
  have hmk := made_int k (by omega)
  have hmf : ∀ (fn : Fn) (first cap : Array Value) (w : World), (Instr.makeFunc fn first cap).run Try.prog w = .ok (.func fn first cap) w := fun _ _ _ _ => rfl
  have hk0 : ¬ (k : Int) < 0 := by omega
  have hk1 : ¬ (4096 : Int) < k := by omega
  clear hK s hnil
  go_enter Try.func10, Try.ntmps10
  go_wp2_with fail
  have f0 : Fr (fun _ => False) w ((w.alloc (.cells #[.int .i64 k] 3)).alloc (.cells #[.pointer none] 46)) := ((Fr.refl _ _).alloc _).alloc _
  have b0 : Blk ((w.alloc (.cells #[.int .i64 k] 3)).alloc (.cells #[.pointer none] 46)) w.heap.size #[.int .i64 k] 3 := (Blk.at_new rfl).alloc _
  have v0 : Blk ((w.alloc (.cells #[.int .i64 k] 3)).alloc (.cells #[.pointer none] 46)) (w.heap.size + 1) #[.pointer none] 46 := Blk.at_new (by simp)
  have sz : ((w.alloc (.cells #[.int .i64 k] 3)).alloc (.cells #[.pointer none] 46)).heap.size = w.heap.size + 2 := by simp
  generalize ((w.alloc (.cells #[.int .i64 k] 3)).alloc (.cells #[.pointer none] 46)) = W at *
  have gf := fun w => gworld_fr w (fun _ => False)
  have gs := gworld_size W
  refine (guard_of 48 _ W _ (fun x => x = w.heap.size + 1) (by rintro x rfl; omega) (fun w => by simp [go_sem]) (plays1 w.heap.size (w.heap.size + 1) k hk _ _ (b0.fr (gf _) id) (v0.fr (gf _) id)) (fun e w' h => ⟨_, h.1, h.2.1⟩)).mono ?_
  rintro e w2 ⟨s, e1, w1, ⟨ht, f1, v1, m1⟩, ht2, rfl, f2⟩
  obtain rfl := ht.uniq ht2
  have v2 := v1.fr f2 (by omega)
  have m2 := m1.fr f2 (by omega) (by omega)
  have b2 := ((b0.fr (gf _) id).fr f1 (by omega)).fr f2 (by omega)
  have f02 : Fr (fun _ => False) w w2 := (f0.step ((gworld_fr W _).trans f1) (by omega)).step f2 (by omega)
  have d1 := m2.ne
  obtain ⟨m, g, bn, vm, hm, hg, hbn, hvm⟩ : ∃ m g bn vm : Nat, m = (gworld W).heap.size + 1 ∧ g = (gworld W).heap.size ∧ bn = w.heap.size ∧ vm = w.heap.size + 1 := ⟨_, _, _, _, rfl, rfl, rfl, rfl⟩
  rw [← hvm, ← hm] at v2
  rw [← hm, ← hg] at m2
  rw [← hbn] at b2
  rw [← hvm, ← hbn]
  have dvm : vm ≠ m ∧ vm ≠ g ∧ bn ≠ m ∧ bn ≠ g ∧ bn ≠ vm := by omega
  have dml : w.heap.size ≤ m ∧ w.heap.size ≤ g := by omega
  have v2c := v2.cell 0
  have v2l := v2.lt
  have b2c := b2.cell 0
  have b2l := b2.lt
  have HV := Lib.hid v2
  have HB := Lib.hid b2
  have HM := Lib.hid m2
  have HF := Lib.hid f02
  have HD := Lib.hid dvm
  have HL := Lib.hid dml
  have m2l := m2.h.lt
  have g2l := m2.a.lt
  clear b0 v0 f0 ht ht2 f1 f2 v1 m1 v2 m2 b2 f02 hm hg hbn hvm sz gs gf dvm dml d1
  simp only [Stp.why_o, Stp.at_o, Stp.is_o]
  go_wp2_with fail
  have mr : RefM (((w2.alloc (.cells #[.int .i64 0, .int .i64 0] 23)).alloc (.cells (madeCells #[.int .i64 0] k) 3)).alloc (.cells #[.slice (some ⟨w2.heap.size + 1, 0, none⟩) k k, .int .i64 0, .int .i64 0] 57)) (w2.heap.size + 1 + 1) (w2.heap.size + 1) k (fun _ => 0) 0 0 := ⟨Blk.at_new (by simp), (Arr.at_new _ _ (by simp)).alloc _⟩
  have f3 := ((HF.out.alloc (.cells #[.int .i64 0, .int .i64 0] 23)).alloc (.cells (madeCells #[.int .i64 0] k) 3)).alloc (.cells #[.slice (some ⟨w2.heap.size + 1, 0, none⟩) k k, .int .i64 0, .int .i64 0] 57)
  have m3 := ((HM.out.alloc (.cells #[.int .i64 0, .int .i64 0] 23)).alloc (.cells (madeCells #[.int .i64 0] k) 3)).alloc (.cells #[.slice (some ⟨w2.heap.size + 1, 0, none⟩) k k, .int .i64 0, .int .i64 0] 57)
  have v3 := ((HV.out.alloc (.cells #[.int .i64 0, .int .i64 0] 23)).alloc (.cells (madeCells #[.int .i64 0] k) 3)).alloc (.cells #[.slice (some ⟨w2.heap.size + 1, 0, none⟩) k k, .int .i64 0, .int .i64 0] 57)
  have b3 := ((HB.out.alloc (.cells #[.int .i64 0, .int .i64 0] 23)).alloc (.cells (madeCells #[.int .i64 0] k) 3)).alloc (.cells #[.slice (some ⟨w2.heap.size + 1, 0, none⟩) k k, .int .i64 0, .int .i64 0] 57)
  have sz2 := HF.out.size
  generalize (((w2.alloc (.cells #[.int .i64 0, .int .i64 0] 23)).alloc (.cells (madeCells #[.int .i64 0] k) 3)).alloc (.cells #[.slice (some ⟨w2.heap.size + 1, 0, none⟩) k k, .int .i64 0, .int .i64 0] 57)) = W3 at *
  obtain ⟨r, g2, hr, hg2⟩ : ∃ r g2 : Nat, r = w2.heap.size + 1 + 1 ∧ g2 = w2.heap.size + 1 := ⟨_, _, rfl, rfl⟩
  rw [← hr, ← hg2] at mr
  rw [← hr]
  have d2 : r ≠ m ∧ r ≠ g ∧ r ≠ bn ∧ r ≠ vm ∧ g2 ≠ m ∧ g2 ≠ g ∧ g2 ≠ bn ∧ g2 ≠ vm ∧ g2 ≠ r ∧ w.heap.size ≤ r ∧ w.heap.size ≤ g2 := by omega
  have HR3 := Lib.hid mr
  have HF3 := Lib.hid f3
  have HM3 := Lib.hid m3
  have HV3 := Lib.hid v3
  have HB3 := Lib.hid b3
  have HD2 := Lib.hid d2
  clear mr f3 m3 v3 b3 d2 hr hg2 sz2 v2c v2l b2c b2l m2l g2l HF HM HV HB
  have HRR := Lib.hid wordRuns_any
  go_loopw [10] (fun t10 wr => PlaysRel W3 bn vm m g r g2 k len t10 wr) (fun t10 _ => (60 - intOf t10).toNat)
  case atStart => exact ⟨0, fun _ => 0, 0, 0, by omega, by omega, rfl, by omega, HB3.out, HV3.out, HM3.out, HR3.out, Fr.refl _ _⟩
  case round =>
    obtain ⟨i, V, c, y, hi, hil, rfl, hci, hB, hV, hM, hR, hF⟩ := hrel
    have HB := Lib.hid hB
    have HV := Lib.hid hV
    have HM := Lib.hid hM
    have HR := Lib.hid hR
    have HF := Lib.hid hF
    by_cases hr : i < len ∧ i < 60
    · obtain ⟨hr1, hr2⟩ := hr
      have hr1' : (i : Int) < len := by omega
      have hr2' : (i : Int) < 60 := by omega
      have D1 := HD.out
      have D2 := HD2.out
      have DL := HL.out
      rcases HK.out.at (HF3.out.step hF (fun x hx h => by omega)) with h | ⟨b, off, rfl, hbw, hc⟩
      · omega
      obtain ⟨⟨hc0, _⟩, ⟨hc1, _⟩, ⟨hc2, _⟩⟩ := hc i hr1
      clear hB hV hM hR hF hc D1 D2 DL
      go_wp2_with fail
      have q5 : Blk ((wr.alloc (.cells #[.int .i64 (K i), .int .i64 (A i), .int .i64 (X i)] 53)).alloc (.cells #[.int .i64 0] 3)) wr.heap.size #[.int .i64 (K i), .int .i64 (A i), .int .i64 (X i)] 53 := (Blk.at_new rfl).alloc _
      have o5 : Blk ((wr.alloc (.cells #[.int .i64 (K i), .int .i64 (A i), .int .i64 (X i)] 53)).alloc (.cells #[.int .i64 0] 3)) (wr.heap.size + 1) #[.int .i64 0] 3 := Blk.at_new (by simp)
      have m5 := (HM.out.alloc (.cells #[.int .i64 (K i), .int .i64 (A i), .int .i64 (X i)] 53)).alloc (.cells #[.int .i64 0] 3)
      have v5 := (HV.out.alloc (.cells #[.int .i64 (K i), .int .i64 (A i), .int .i64 (X i)] 53)).alloc (.cells #[.int .i64 0] 3)
      have b5 := (HB.out.alloc (.cells #[.int .i64 (K i), .int .i64 (A i), .int .i64 (X i)] 53)).alloc (.cells #[.int .i64 0] 3)
      have r5 := (HR.out.alloc (.cells #[.int .i64 (K i), .int .i64 (A i), .int .i64 (X i)] 53)).alloc (.cells #[.int .i64 0] 3)
      have f5 := (HF.out.alloc (.cells #[.int .i64 (K i), .int .i64 (A i), .int .i64 (X i)] 53)).alloc (.cells #[.int .i64 0] 3)
      have dlt : m < wr.heap.size ∧ g < wr.heap.size ∧ vm < wr.heap.size ∧ bn < wr.heap.size ∧ r < wr.heap.size ∧ g2 < wr.heap.size := ⟨HM.out.h.lt, HM.out.a.lt, HV.out.lt, HB.out.lt, HR.out.h.lt, HR.out.a.lt⟩
      have sz5 : ((wr.alloc (.cells #[.int .i64 (K i), .int .i64 (A i), .int .i64 (X i)] 53)).alloc (.cells #[.int .i64 0] 3)).heap.size = wr.heap.size + 2 := by simp
      generalize ((wr.alloc (.cells #[.int .i64 (K i), .int .i64 (A i), .int .i64 (X i)] 53)).alloc (.cells #[.int .i64 0] 3)) = W5 at *
      have D1 := HD.out
      have D2 := HD2.out
      have gf := fun w => gworld_fr w (fun _ => False)
      obtain ⟨U, got, d, st, hacc⟩ := Acc.total k V (K i) (A i) (X i)
      refine (guard_of 49 _ W5 _ (fun x => x = wr.heap.size + 1 ∨ x = m ∨ x = g) (by rintro x (rfl | rfl | rfl) <;> omega) (fun w => by simp [go_sem])
        (plays2 wr.heap.size vm (wr.heap.size + 1) m g k V c (K i) (A i) (X i) U got d st (gworld W5) hacc (by omega) (q5.fr (gf _) id) (v5.fr (gf _) id) (o5.fr (gf _) id) (m5.fr (gf _) id id) (by omega)) (fun e w' h => ⟨_, h.1, h.2.1⟩)).mono ?_
      rintro e w6 ⟨s', e1, w5, ⟨ht, fa, oo, mm⟩, ht2, rfl, fb⟩
      obtain rfl := ht.uniq ht2
      have q6 := ((q5.fr (gf _) id).fr fa (by omega)).fr fb (by omega)
      have o6 := oo.fr fb (by omega)
      have m6 := mm.fr fb (by omega) (by omega)
      have v6 := ((v5.fr (gf _) id).fr fa (by omega)).fr fb (by omega)
      have b6 := ((b5.fr (gf _) id).fr fa (by omega)).fr fb (by omega)
      have hcb : c ≤ 60 := by omega
      have r6 := ((r5.fr (gf _) id id).fr fa (by omega) (by omega)).fr fb (by omega) (by omega)
      have f6 : Fr (fun x => x = m ∨ x = g ∨ x = r ∨ x = g2) W3 w6 := (f5.step ((gworld_fr W5 _).trans fa) (fun x hx h => by have := HF.out.size; omega)).step fb (fun x hx h => by have := HF.out.size; omega)
      obtain ⟨bq, hbq⟩ : ∃ bq, bq = wr.heap.size := ⟨_, rfl⟩
      rw [← hbq] at q6 o6
      rw [← hbq]
      have D3 : bq ≠ r ∧ bq + 1 ≠ r ∧ bq ≠ g2 ∧ bq + 1 ≠ g2 ∧ bq ≠ m ∧ bq ≠ g ∧ bq + 1 ≠ m ∧ bq + 1 ≠ g ∧ bq ≠ vm ∧ bq ≠ bn ∧ bq + 1 ≠ vm ∧ bq + 1 ≠ bn := by omega
      generalize hkk : K i = kk at *
      generalize haa : A i = aa at *
      generalize hxx : X i = xx at *
      have r6l := r6.h.lt
      have r6f := r6.h.frozen
      have HQ6 := Lib.hid q6
      have HO6 := Lib.hid o6
      have HM6 := Lib.hid m6
      have HV6 := Lib.hid v6
      have HB6 := Lib.hid b6
      have HR6 := Lib.hid r6
      have HF6 := Lib.hid f6
      have HD3 := Lib.hid D3
      have HDL := Lib.hid dlt
      have HACC := Lib.hid hacc
      have q60 := q6.cell 0
      have q61 := q6.cell 1
      have q62 := q6.cell 2
      have ql := q6.lt
      have r60 := r6.h.cell 0
      have r61 := r6.h.cell 1
      have r62 := r6.h.cell 2
      have HI := Lib.hid (show i ≤ 60 ∧ i ≤ len ∧ c ≤ i ∧ i < len ∧ i < 60 from ⟨hi, hil, hci, hr1, hr2⟩)
      clear q5 o5 m5 v5 b5 r5 f5 dlt sz5 D1 D2 gf ht ht2 fa oo mm fb q6 o6 m6 v6 b6 r6 f6 D3 hbq hc0 hc1 hc2 hbw hi hil hci hacc
      go_upto_if 77 with fail
      have D2 := HD2.out
      have D3 := HD3.out
      have szr := HR6.out.h.lt
      have szg := HR6.out.a.lt
      have szm := HM6.out.h.lt
      have szn := HM6.out.a.lt
      have szv := HV6.out.lt
      have szb := HB6.out.lt
      have szo := HO6.out.lt
      have szq := HQ6.out.lt
      have R7 := (HR6.out.why 0).alloc (.cells #[.int .i64 st.why, .int .i64 st.at] 23)
      have T7 : Blk ((w6.setCell ⟨r, 2, none⟩ (.int .i64 0)).alloc (.cells #[.int .i64 st.why, .int .i64 st.at] 23)) w6.heap.size #[.int .i64 st.why, .int .i64 st.at] 23 := Blk.at_new (by simp [World.setCell])
      have O7 := (HO6.out.other (p := ⟨r, 2, none⟩) (by dsimp only; omega) (.int .i64 0)).alloc (.cells #[.int .i64 st.why, .int .i64 st.at] 23)
      have Q7 := (HQ6.out.other (p := ⟨r, 2, none⟩) (by dsimp only; omega) (.int .i64 0)).alloc (.cells #[.int .i64 st.why, .int .i64 st.at] 23)
      have V7 := (HV6.out.other (p := ⟨r, 2, none⟩) (by dsimp only; omega) (.int .i64 0)).alloc (.cells #[.int .i64 st.why, .int .i64 st.at] 23)
      have B7 := (HB6.out.other (p := ⟨r, 2, none⟩) (by dsimp only; omega) (.int .i64 0)).alloc (.cells #[.int .i64 st.why, .int .i64 st.at] 23)
      have M7 := (HM6.out.other (p := ⟨r, 2, none⟩) (by dsimp only; omega) (by dsimp only; omega) (.int .i64 0)).alloc (.cells #[.int .i64 st.why, .int .i64 st.at] 23)
      have F7 := (HF6.out.setCell (p := ⟨r, 2, none⟩) (fun _ => .inr (.inr (.inl rfl))) (.int .i64 0)).alloc (.cells #[.int .i64 st.why, .int .i64 st.at] 23)
      generalize (w6.setCell ⟨r, 2, none⟩ (.int .i64 0)).alloc (.cells #[.int .i64 st.why, .int .i64 st.at] 23) = W7 at *
      have hbs : w6.heap.size = w6.heap.size := rfl
      clear hbs
      obtain ⟨bs, hbs⟩ : ∃ bs, bs = w6.heap.size := ⟨_, rfl⟩
      rw [← hbs] at T7
      rw [← hbs]
      have DB : bs ≠ r ∧ bs ≠ g2 := by omega
      have q1 := Q7.cell 1
      have q2 := Q7.cell 2
      have ql7 := Q7.lt
      have HR7 := Lib.hid R7
      have HT7 := Lib.hid T7
      have HO7 := Lib.hid O7
      have HQ7 := Lib.hid Q7
      have HV7 := Lib.hid V7
      have HB7 := Lib.hid B7
      have HM7 := Lib.hid M7
      have HF7 := Lib.hid F7
      obtain ⟨a1, a2, a3, a4, a5, a6, a7, a8, _, _, _⟩ := HD2.out
      obtain ⟨b1, b2, b3, b4, _, _, _, _, _, _, _, _⟩ := HD3.out
      have NM := Lib.hid (show ¬ (m = r ∨ m = g2) from fun h => h.elim (fun e => a1 e.symm) (fun e => a5 e.symm))
      have NG := Lib.hid (show ¬ (g = r ∨ g = g2) from fun h => h.elim (fun e => a2 e.symm) (fun e => a6 e.symm))
      have NB := Lib.hid (show ¬ (bn = r ∨ bn = g2) from fun h => h.elim (fun e => a3 e.symm) (fun e => a7 e.symm))
      have NV := Lib.hid (show ¬ (vm = r ∨ vm = g2) from fun h => h.elim (fun e => a4 e.symm) (fun e => a8 e.symm))
      have NQ := Lib.hid (show ¬ (bq = r ∨ bq = g2) from fun h => h.elim b1 b3)
      have NO := Lib.hid (show ¬ (bq + 1 = r ∨ bq + 1 = g2) from fun h => h.elim b2 b4)
      have NS := Lib.hid (show ¬ (bs = r ∨ bs = g2) from fun h => h.elim DB.1 DB.2)
      clear a1 a2 a3 a4 a5 a6 a7 a8 b1 b2 b3 b4
      clear q60 q61 q62 ql r60 r61 r62 r6l r6f D2 D3 szr szg szm szn szv szb szo szq R7 T7 O7 Q7 V7 B7 M7 F7 DB hbs
      refine wp_last ?_
      go_cut [13] from 53 to 147 (fun t13 wx => PlayCut W3 bn vm bq bs m g r g2 k (c + d) U kk aa xx got st t13 wx)
      case first =>
        cases HACC.out with
        | load a x h =>
          go_wp2_with fail
          refine (ref_load r g2 k V c 0 _ HR7.out a h (by omega)).mono ?_
          rintro e w8 ⟨rfl, f8, R8⟩
          have B8 := HB7.out.fr f8 NB.out
          have V8 := HV7.out.fr f8 NV.out
          have Q8 := HQ7.out.fr f8 NQ.out
          have O8 := HO7.out.fr f8 NO.out
          have T8 := HT7.out.fr f8 NS.out
          have M8 := HM7.out.fr f8 NM.out NG.out
          have F8 := HF7.out.step f8 (fun x _ h => h.elim (fun h => .inr (.inr (.inl h))) (fun h => .inr (.inr (.inr h))))
          have ec1 : (c : Int) + ((1 : Nat) : Int) = ((c + 1 : Nat) : Int) := by omega
          have ec2 : (c : Int) + 1 = ((c + 1 : Nat) : Int) := by omega
          have mid : PlayMid W3 bn vm bq bs m g r g2 k (c + 1) V 1 a xx (V a) .ok w8 := ⟨B8, V8, Q8, O8, T8, ⟨_, ec1, M8⟩, ⟨_, _, ec2, rfl, R8⟩, F8⟩
          have HMID := Lib.hid mid
          clear mid f8 R8 B8 V8 Q8 O8 T8 M8 F8 ec1 ec2
          go_wp2_with fail
          go_meet
          exact ⟨rfl, HMID.out⟩
        | store a x h =>
          go_wp2_with fail
          refine (ref_store r g2 k V c 0 _ HR7.out a h (by omega) xx).mono ?_
          rintro e w8 ⟨rfl, f8, R8⟩
          have B8 := HB7.out.fr f8 NB.out
          have V8 := HV7.out.fr f8 NV.out
          have Q8 := HQ7.out.fr f8 NQ.out
          have O8 := HO7.out.fr f8 NO.out
          have T8 := HT7.out.fr f8 NS.out
          have M8 := HM7.out.fr f8 NM.out NG.out
          have F8 := HF7.out.step f8 (fun x _ h => h.elim (fun h => .inr (.inr (.inl h))) (fun h => .inr (.inr (.inr h))))
          have ec1 : (c : Int) + ((1 : Nat) : Int) = ((c + 1 : Nat) : Int) := by omega
          have ec2 : (c : Int) + 1 = ((c + 1 : Nat) : Int) := by omega
          have mid : PlayMid W3 bn vm bq bs m g r g2 k (c + 1) (upd V a xx) 2 a xx 0 .ok w8 := ⟨B8, V8, Q8, O8, T8, ⟨_, ec1, M8⟩, ⟨_, _, ec2, rfl, R8⟩, F8⟩
          have HMID := Lib.hid mid
          clear mid f8 R8 B8 V8 Q8 O8 T8 M8 F8 ec1 ec2
          go_wp2_with fail
          go_meet
          exact ⟨rfl, HMID.out⟩
        | add a x h =>
          go_wp2_with fail
          refine (ref_add r g2 k V c 0 _ HR7.out a h (by omega) xx).mono ?_
          rintro e w8 ⟨rfl, f8, R8⟩
          have B8 := HB7.out.fr f8 NB.out
          have V8 := HV7.out.fr f8 NV.out
          have Q8 := HQ7.out.fr f8 NQ.out
          have O8 := HO7.out.fr f8 NO.out
          have T8 := HT7.out.fr f8 NS.out
          have M8 := HM7.out.fr f8 NM.out NG.out
          have F8 := HF7.out.step f8 (fun x _ h => h.elim (fun h => .inr (.inr (.inl h))) (fun h => .inr (.inr (.inr h))))
          have ec1 : (c : Int) + ((1 : Nat) : Int) = ((c + 1 : Nat) : Int) := by omega
          have ec2 : (c : Int) + 1 = ((c + 1 : Nat) : Int) := by omega
          have mid : PlayMid W3 bn vm bq bs m g r g2 k (c + 1) (upd V a (wadd (V a) xx)) 3 a xx (V a) .ok w8 := ⟨B8, V8, Q8, O8, T8, ⟨_, ec1, M8⟩, ⟨_, _, ec2, rfl, R8⟩, F8⟩
          have HMID := Lib.hid mid
          clear mid f8 R8 B8 V8 Q8 O8 T8 M8 F8 ec1 ec2
          go_wp2_with fail
          go_meet
          exact ⟨rfl, HMID.out⟩
        | swap a x h =>
          go_wp2_with fail
          refine (ref_swap r g2 k V c 0 _ HR7.out a h (by omega) xx).mono ?_
          rintro e w8 ⟨rfl, f8, R8⟩
          have B8 := HB7.out.fr f8 NB.out
          have V8 := HV7.out.fr f8 NV.out
          have Q8 := HQ7.out.fr f8 NQ.out
          have O8 := HO7.out.fr f8 NO.out
          have T8 := HT7.out.fr f8 NS.out
          have M8 := HM7.out.fr f8 NM.out NG.out
          have F8 := HF7.out.step f8 (fun x _ h => h.elim (fun h => .inr (.inr (.inl h))) (fun h => .inr (.inr (.inr h))))
          have ec1 : (c : Int) + ((1 : Nat) : Int) = ((c + 1 : Nat) : Int) := by omega
          have ec2 : (c : Int) + 1 = ((c + 1 : Nat) : Int) := by omega
          have mid : PlayMid W3 bn vm bq bs m g r g2 k (c + 1) (upd V a xx) 4 a xx (V a) .ok w8 := ⟨B8, V8, Q8, O8, T8, ⟨_, ec1, M8⟩, ⟨_, _, ec2, rfl, R8⟩, F8⟩
          have HMID := Lib.hid mid
          clear mid f8 R8 B8 V8 Q8 O8 T8 M8 F8 ec1 ec2
          go_wp2_with fail
          go_meet
          exact ⟨rfl, HMID.out⟩
        | load' a x h =>
          go_wp2_with fail
          refine (ref_load_bad r g2 k V c 0 _ HR7.out aa h).mono ?_
          rintro e w8 ⟨rfl, f8', R8⟩
          have f8 : Fr (fun k => k = r ∨ k = g2) W7 w8 := f8'.mono (fun _ _ h => .inl h)
          have B8 := HB7.out.fr f8 NB.out
          have V8 := HV7.out.fr f8 NV.out
          have Q8 := HQ7.out.fr f8 NQ.out
          have O8 := HO7.out.fr f8 NO.out
          have T8 := HT7.out.fr f8 NS.out
          have M8 := HM7.out.fr f8 NM.out NG.out
          have F8 := HF7.out.step f8 (fun x _ h => h.elim (fun h => .inr (.inr (.inl h))) (fun h => .inr (.inr (.inr h))))
          have ec1 : (c : Int) + ((0 : Nat) : Int) = ((c + 0 : Nat) : Int) := by omega
          have ec2 : (c : Int) = ((c + 0 : Nat) : Int) := by omega
          have mid : PlayMid W3 bn vm bq bs m g r g2 k (c + 0) V 1 aa xx 0 (.stop 2 aa) w8 := ⟨B8, V8, Q8, O8, T8, ⟨_, ec1, M8⟩, ⟨_, _, ec2, rfl, R8⟩, F8⟩
          have HMID := Lib.hid mid
          clear mid f8 f8' R8 B8 V8 Q8 O8 T8 M8 F8 ec1 ec2
          go_wp2_with fail
          go_meet
          exact ⟨rfl, HMID.out⟩
        | store' a x h =>
          go_wp2_with fail
          refine (ref_store_bad r g2 k V c 0 _ HR7.out aa h xx).mono ?_
          rintro e w8 ⟨rfl, f8', R8⟩
          have f8 : Fr (fun k => k = r ∨ k = g2) W7 w8 := f8'.mono (fun _ _ h => .inl h)
          have B8 := HB7.out.fr f8 NB.out
          have V8 := HV7.out.fr f8 NV.out
          have Q8 := HQ7.out.fr f8 NQ.out
          have O8 := HO7.out.fr f8 NO.out
          have T8 := HT7.out.fr f8 NS.out
          have M8 := HM7.out.fr f8 NM.out NG.out
          have F8 := HF7.out.step f8 (fun x _ h => h.elim (fun h => .inr (.inr (.inl h))) (fun h => .inr (.inr (.inr h))))
          have ec1 : (c : Int) + ((0 : Nat) : Int) = ((c + 0 : Nat) : Int) := by omega
          have ec2 : (c : Int) = ((c + 0 : Nat) : Int) := by omega
          have mid : PlayMid W3 bn vm bq bs m g r g2 k (c + 0) V 2 aa xx 0 (.stop 2 aa) w8 := ⟨B8, V8, Q8, O8, T8, ⟨_, ec1, M8⟩, ⟨_, _, ec2, rfl, R8⟩, F8⟩
          have HMID := Lib.hid mid
          clear mid f8 f8' R8 B8 V8 Q8 O8 T8 M8 F8 ec1 ec2
          go_wp2_with fail
          go_meet
          exact ⟨rfl, HMID.out⟩
        | add' a x h =>
          go_wp2_with fail
          refine (ref_add_bad r g2 k V c 0 _ HR7.out aa h xx).mono ?_
          rintro e w8 ⟨rfl, f8', R8⟩
          have f8 : Fr (fun k => k = r ∨ k = g2) W7 w8 := f8'.mono (fun _ _ h => .inl h)
          have B8 := HB7.out.fr f8 NB.out
          have V8 := HV7.out.fr f8 NV.out
          have Q8 := HQ7.out.fr f8 NQ.out
          have O8 := HO7.out.fr f8 NO.out
          have T8 := HT7.out.fr f8 NS.out
          have M8 := HM7.out.fr f8 NM.out NG.out
          have F8 := HF7.out.step f8 (fun x _ h => h.elim (fun h => .inr (.inr (.inl h))) (fun h => .inr (.inr (.inr h))))
          have ec1 : (c : Int) + ((0 : Nat) : Int) = ((c + 0 : Nat) : Int) := by omega
          have ec2 : (c : Int) = ((c + 0 : Nat) : Int) := by omega
          have mid : PlayMid W3 bn vm bq bs m g r g2 k (c + 0) V 3 aa xx 0 (.stop 2 aa) w8 := ⟨B8, V8, Q8, O8, T8, ⟨_, ec1, M8⟩, ⟨_, _, ec2, rfl, R8⟩, F8⟩
          have HMID := Lib.hid mid
          clear mid f8 f8' R8 B8 V8 Q8 O8 T8 M8 F8 ec1 ec2
          go_wp2_with fail
          go_meet
          exact ⟨rfl, HMID.out⟩
        | swap' a x h =>
          go_wp2_with fail
          refine (ref_swap_bad r g2 k V c 0 _ HR7.out aa h xx).mono ?_
          rintro e w8 ⟨rfl, f8', R8⟩
          have f8 : Fr (fun k => k = r ∨ k = g2) W7 w8 := f8'.mono (fun _ _ h => .inl h)
          have B8 := HB7.out.fr f8 NB.out
          have V8 := HV7.out.fr f8 NV.out
          have Q8 := HQ7.out.fr f8 NQ.out
          have O8 := HO7.out.fr f8 NO.out
          have T8 := HT7.out.fr f8 NS.out
          have M8 := HM7.out.fr f8 NM.out NG.out
          have F8 := HF7.out.step f8 (fun x _ h => h.elim (fun h => .inr (.inr (.inl h))) (fun h => .inr (.inr (.inr h))))
          have ec1 : (c : Int) + ((0 : Nat) : Int) = ((c + 0 : Nat) : Int) := by omega
          have ec2 : (c : Int) = ((c + 0 : Nat) : Int) := by omega
          have mid : PlayMid W3 bn vm bq bs m g r g2 k (c + 0) V 4 aa xx 0 (.stop 2 aa) w8 := ⟨B8, V8, Q8, O8, T8, ⟨_, ec1, M8⟩, ⟨_, _, ec2, rfl, R8⟩, F8⟩
          have HMID := Lib.hid mid
          clear mid f8 f8' R8 B8 V8 Q8 O8 T8 M8 F8 ec1 ec2
          go_wp2_with fail
          go_meet
          exact ⟨rfl, HMID.out⟩
        | other k' a x h1 h2 h3 h4 =>
          have hs1 := h1
          have hs2 := h2
          have hs3 := h3
          have hs4 := h4
          go_wp2_with fail
          go_meet
          exact ⟨rfl, HB7.out, HV7.out, HQ7.out, HO7.out, HT7.out, ⟨_, by omega, HM7.out⟩, ⟨_, _, by omega, rfl, HR7.out⟩, HF7.out⟩
      case rest =>
        obtain ⟨rfl, mid⟩ := hcut
        have hst := HACC.out.stp
        obtain ⟨hB, hV, hQ, hO, hS, ⟨x1, hx1, hM⟩, ⟨x2, y2, hx2, hy2, hR⟩, hF⟩ := mid
        subst hx1
        subst hx2
        obtain ⟨hd1, hst⟩ := hst
        have HB8 := Lib.hid hB
        have HV8 := Lib.hid hV
        have HM8 := Lib.hid hM
        have HF8 := Lib.hid hF
        have e1 := hO.cell 0
        have e2 := hR.h.cell 1
        have e3 := hR.h.cell 2
        have e6 := hQ.cell 1
        have e7 := hV.cell 0
        have e8 := hB.cell 0
        have l1 := hO.lt
        have l2 := hR.h.lt
        have l3 := hS.lt
        have l4 := hQ.lt
        have l5 := hV.lt
        have l6 := hB.lt
        have HS8 := Lib.hid hS
        have HR8 := Lib.hid hR
        rcases hst with rfl | rfl
        · obtain rfl : y2 = 0 := hy2
          have e4 : wc.cell? ⟨bs, 0, none⟩ = some (.int .i64 0) := hS.cell 0
          have e5 : wc.cell? ⟨bs, 1, none⟩ = some (.int .i64 0) := hS.cell 1
          clear hB hV hM hF hO hR hQ hS
          simp only [Stp.is_o]
          go_wp2_with fail
          go_quiet (first
            | (go_at_call 47; refine Calls.quiet_of_same (mem_count _ _ _ _ _ _ (HM8.out.drewN _)))
            | (go_at_call 54; refine Calls.quiet_of_same (mem_len _ _ _ _ _ _ (HM8.out.drewN _))))
          go_wp2_with fail
          obtain ⟨_, _, hci, hr1, hr2⟩ := HI.out
          exact ⟨⟨i + 1, U, c + d, 0, by omega, by omega, by go_num, by omega, HB8.out.drewN _, HV8.out.drewN _, HM8.out.drewN _, HR8.out.drewN _, HF8.out.drewN _⟩, by simp [intOf]; omega⟩
        · obtain rfl : y2 = 2 := hy2
          have e4 : wc.cell? ⟨bs, 0, none⟩ = some (.int .i64 2) := hS.cell 0
          have e5 : wc.cell? ⟨bs, 1, none⟩ = some (.int .i64 aa) := hS.cell 1
          clear hB hV hM hF hO hR hQ hS
          simp only [Stp.is_s]
          go_wp2_with fail
          go_quiet (first
            | (go_at_call 47; refine Calls.quiet_of_same (mem_count _ _ _ _ _ _ (HM8.out.drewN _)))
            | (go_at_call 54; refine Calls.quiet_of_same (mem_len _ _ _ _ _ _ (HM8.out.drewN _))))
          go_wp2_with fail
          obtain ⟨_, _, hci, hr1, hr2⟩ := HI.out
          exact ⟨⟨i + 1, U, c + d, 2, by omega, by omega, by go_num, by omega, HB8.out.drewN _, HV8.out.drewN _, HM8.out.drewN _, HR8.out.drewN _, HF8.out.drewN _⟩, by simp [intOf]; omega⟩
    · clear hB hV hM hR hF
      have c10 := HB.out.cell 0
      have c11 := HB.out.lt
      have hc60 : c ≤ 60 := by omega
      rcases (show ¬ (i : Int) < len ∨ ((i : Int) < len ∧ ¬ (i : Int) < 60) by omega) with hx | ⟨hx, hy⟩
      all_goals go_wp2_with fail
      all_goals
        go_loopw [16] (fun t16 w2 => LastRel wr bn vm m g r g2 k V c t16 w2) (fun t16 _ => (70 - intOf t16).toNat)
        case atStart => exact ⟨0, by omega, by omega, rfl, HB.out, HV.out, HM.out.congr (fun _ _ => rfl) rfl, ⟨_, _, HR.out⟩, Fr.refl _ _⟩
        case round =>
          obtain ⟨p, hp, hp70, rfl, hB, hV, hM, ⟨e, y', hR⟩, hF⟩ := hrel
          have HB2 := Lib.hid hB
          have HV2 := Lib.hid hV
          have HM2 := Lib.hid hM
          have HR2 := Lib.hid hR
          have HF2 := Lib.hid hF
          have k10 := hB.cell 0
          have k11 := hB.lt
          by_cases hpk : p < k ∧ p < 70
          · obtain ⟨hpk, hp7⟩ := hpk
            have hpk' : (p : Int) < k := by omega
            have hp7' : (p : Int) < 70 := by omega
            have k1 := hV.cell 0
            have k2 := hV.lt
            have k3 := hR.h.cell 0
            have k4 := hR.h.lt
            have k5 := hR.a.cell hpk
            have k6 := hR.a.lt
            have NB : ¬ bn = m := HD.out.2.2.1
            have NV : ¬ vm = m := HD.out.1
            have NR : ¬ r = m := HD2.out.1
            have NG : ¬ g2 = m := HD2.out.2.2.2.2.1
            clear hB hV hM hR hF
            go_wp2_with fail
            go_region_held3 (fun w' => w'.cell? ⟨vm, 0, none⟩ = some (.pointer (some ⟨m, 0, none⟩)) ∧ w'.cell? ⟨r, 0, none⟩ = some (.slice (some ⟨g2, 0, none⟩) k k) ∧ w'.cell? ⟨g2, p, none⟩ = some (.int .i64 (V p))) (first | exact ⟨by assumption, by assumption, by assumption⟩)
              (first | (go_at_call 45; refine (mem_load _ _ k _ _ p _ HM2.out.drew hpk (by omega)).mono ?_; rintro e w3 ⟨rfl, f3, M3⟩; have HMa := Lib.hid M3; have HRa := Lib.hid (HR2.out.drew.fr f3 NR NG); have HVa := Lib.hid (HV2.out.drew.fr f3 NV); have HBa := Lib.hid (HB2.out.drew.fr f3 NB); have HFa := Lib.hid (HF2.out.drew.trans f3); have z1 := HVa.out.cell 0; have z2 := HRa.out.h.cell 0; have z3 := HRa.out.a.cell hpk; clear f3 M3))
            go_wp2_with fail
            exact ⟨⟨p + 1, by omega, by omega, by go_num, HBa.out, HVa.out, HMa.out.congr (fun _ _ => rfl) (by omega), ⟨_, _, HRa.out⟩, HFa.out⟩, by simp [intOf]; omega⟩
          · rcases (show ¬ (p : Int) < k ∨ ((p : Int) < k ∧ ¬ (p : Int) < 70) by omega) with hz | ⟨hz, hz2⟩
            all_goals clear hB hV hM hR hF
            all_goals
              go_wp2_with (go_at_call 8; refine (HRR.out _).mono ?_; rintro e w8 ⟨rfl, f8⟩; have HF8 := Lib.hid f8; clear f8)
              go_ret
              have DL := HL.out
              have D2 := HD2.out
              exact ⟨rfl, (((HF3.out.step HF.out (fun x hx h => by omega)).step HF2.out (fun x hx h => by omega)).step HF8.out (fun _ _ h => h)).below⟩

theorem wordPlays_walk (n : Int) (a : Option Addr) (len cap : Nat) (V : Nat → Nat → Value) (w : World) (_wf : (Lit.int .i64 n).wf = true) (s : IsSl [.int .i64, .int .i64, .int .i64] w a len cap V) :
    Calls Try.prog 10 #[.int .i64 n, .slice a len cap] w fun e w' => e = .returned (.bool true) ∧ Below w.heap.size w w' := by
  by_cases hn : n < 0 ∨ 4096 < n
  · exact wordPlays_bad n a len cap w hn
  · obtain ⟨k, rfl⟩ : ∃ k : Nat, n = k := ⟨n.toNat, by omega⟩
    exact wordPlays_good k (by omega) a len cap V w s
end Go.Proofs.Ytbjfgcabomgdbaa
