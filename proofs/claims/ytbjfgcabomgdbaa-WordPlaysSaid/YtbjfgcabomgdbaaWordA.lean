import Derived.Test.YtbjfgcabomgdbaaHaltD
import Derived.Test.YtbjfgcabomgdbaaMem
import Derived.Deep.RegionHeld3
namespace Go.Proofs.Ytbjfgcabomgdbaa
open Go.RowKit

theorem Fr.cell {S : Nat → Prop} {w w' : World} (f : Fr S w w') {b i : Nat} {c : Array Value} {t : TypeId} (h : Blk w b c t) (hs : ¬ S b) : w'.cell? ⟨b, i, none⟩ = c[i]? := (h.fr f hs).cell i

theorem wordRuns1 (vm m g : Nat) (V : Nat → Int) (c : Int) (w : World) (h : Blk w vm #[.pointer (some ⟨m, 0, none⟩)] 46) (M : Mem w m g 4 V c) :
    Calls Try.prog 46 #[.pointer (some ⟨vm, 0, none⟩)] w fun e w' => Tame (.stop 2 4) e ∧ Fr (fun _ => False) w w' := by
  have c0 := h.cell 0
  have hat := Lib.hid (mem_load_bad m g 4 V c 4 w M (.inr (by omega)))
  clear h M
  go_enter Try.func46, Try.ntmps46
  go_wp2_with (go_at_call 45; refine hat.out.mono ?_; rintro e w' ⟨rfl, rfl⟩)
  exact ⟨rfl, ⟨[], rfl, rfl⟩, Fr.refl _ _⟩

set_option maxHeartbeats 1000000 in
set_option maxRecDepth 100000 in
theorem wordRuns_any (w : World) :
    Calls Try.prog 8 #[] w fun e w' => e = .returned (.bool true) ∧ Fr (fun _ => False) w w' := by
  have hmf : ∀ (fn : Fn) (first cap : Array Value) (w : World), (Instr.makeFunc fn first cap).run Try.prog w = .ok (.func fn first cap) w := fun _ _ _ _ => rfl
  go_enter Try.func8, Try.ntmps8
  go_wp2_with (go_at_call 41; refine (mem_new 4 (by omega) _).mono ?_; rintro e w1 ⟨rfl, f1, M1⟩; have F1 := Lib.hid f1; have M1' := Lib.hid M1; clear f1 M1)
  have b1 : Blk (w1.alloc (.cells #[.pointer (some ⟨w.heap.size + 1, 0, none⟩)] 46)) w1.heap.size #[.pointer (some ⟨w.heap.size + 1, 0, none⟩)] 46 := Blk.at_new rfl
  have M1 := M1'.out.alloc (.cells #[.pointer (some ⟨w.heap.size + 1, 0, none⟩)] 46)
  have f1 := F1.out.alloc (.cells #[.pointer (some ⟨w.heap.size + 1, 0, none⟩)] 46)
  have sz := F1.out.size
  have n1 : w1.heap.size ≠ w.heap.size + 1 := fun h => by have := M1'.out.h.lt; omega
  have n2 : w1.heap.size ≠ w.heap.size := fun h => by have := M1'.out.h.lt; omega
  have u1 : upd (fun _ : Nat => (0 : Int)) 2 5 2 = 5 := rfl
  have w53 : wadd 5 3 = 8 := by simp [wadd, wrap64]
  have u2 : upd (upd (fun _ : Nat => (0 : Int)) 2 5) 2 (wadd 5 3) 2 = 8 := (upd_self _ _ _).trans w53
  have u3 : upd (upd (upd (fun _ : Nat => (0 : Int)) 2 5) 2 (wadd 5 3)) 2 (-1) 2 = -1 := upd_self _ _ _
  clear w53
  generalize (w1.alloc (.cells #[.pointer (some ⟨w.heap.size + 1, 0, none⟩)] 46)) = W1 at *
  refine (mem_store _ _ 4 _ _ 2 _ M1 (by omega) (by omega) 5).mono ?_
  rintro e w2 ⟨rfl, f2, M2⟩
  have b2 := b1.fr f2 (by omega)
  have f12 : Fr (fun _ => False) w w2 := f1.step f2 (by omega)
  have HM2 := Lib.hid M2
  have HF := Lib.hid f12
  have HB := Lib.hid b2
  have c2 := b2.cell 0
  clear M1 M1' F1 b1 f1 f2 M2 f12 b2
  go_wp2_with fail
  go_region_held3 (fun w' => w'.cell? ⟨w1.heap.size, 0, none⟩ = some (.pointer (some ⟨w.heap.size + 1, 0, none⟩))) (assumption)
    (first
    | (go_at_call 43; refine (mem_add _ _ 4 _ _ 2 _ HM2.out.drew (by omega) (by omega) 3).mono ?_; rintro e w3 ⟨rfl, f3, M3⟩; have HM3 := Lib.hid M3; have HF3 := Lib.hid f3; have HB3 := Lib.hid (HB.out.drew.fr f3 (by omega)); have c3 := HB3.out.cell 0; clear f3 M3)
    | (go_at_call 44; refine (mem_swap _ _ 4 _ _ 2 _ HM3.out (by omega) (by omega) (-1)).mono ?_; rintro e w4 ⟨rfl, f4, M4⟩; have HM4 := Lib.hid M4; have HF4 := Lib.hid f4; have HB4 := Lib.hid (HB3.out.fr f4 (by omega)); have c4 := HB4.out.cell 0; clear f4 M4)
    | (go_at_call 45; refine (mem_load _ _ 4 _ _ 2 _ HM4.out (by omega) (by omega)).mono ?_; rintro e w5 ⟨rfl, f5, M5⟩; have HM5 := Lib.hid M5; have HF5 := Lib.hid f5; have HB5 := Lib.hid (HB4.out.fr f5 (by omega)); have c5 := HB5.out.cell 0; clear f5 M5))
  go_wp2_with (first
    | (go_at_call 12; refine (guard_plain 46 _ _ (.stop 2 4) (fun w => by simp [go_sem]) (wordRuns1 _ _ _ _ _ _ (HB5.out.fr (gworld_fr _ (fun _ => False)) id) (HM5.out.fr (gworld_fr _ (fun _ => False)) id id))).mono ?_; rintro e w6 ⟨rfl, f6⟩; have HF6 := Lib.hid f6; have HM6 := Lib.hid (HM5.out.fr f6 id id); have c6 := (HB5.out.fr f6 id).cell 0; have l6 := (HB5.out.fr f6 id).lt; clear f6; simp only [Stp.why_s, Stp.at_s, Stp.is_s])
    | (go_at_call 47; refine (mem_count _ _ _ _ _ _ (HM6.out.alloc _)).mono ?_; rintro e w7 ⟨rfl, rfl⟩))
  go_ret
  refine ⟨rfl, ?_⟩
  exact (((((HF.out.drew.step HF3.out (by omega)).step HF4.out (by omega)).step HF5.out (by omega)).step HF6.out (fun _ _ h => h)).alloc _)

theorem wordRuns_walk (w : World) :
    Calls Try.prog 8 #[] w fun e w' => e = .returned (.bool true) ∧ Below w.heap.size w w' :=
  (wordRuns_any w).mono fun _ _ h => ⟨h.1, h.2.below⟩
end Go.Proofs.Ytbjfgcabomgdbaa
