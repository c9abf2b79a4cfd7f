import Derived.Test.YtmgijchcfjmphaaWr
import Derived.Test.YtmgijchcfjmphaaKeep1
import Derived.Test.YtmgijchcfjmphaaArg2
import Derived.Test.YtmgijchcfjmphaaTxt
namespace Go.Proofs.Ytmgijchcfjmphaa
open Go.RowKit
attribute [local irreducible] wrCells

theorem pair_eq2 {α β : Type} {a : α × β} {x : α} (h : a.1 = x) : a = (x, a.2) := by cases a; cases h; rfl
/-- the memory of process p alone -/
def memSt (p : Int) (s : ByteArray) : St := .of (putAt (fun _ => Val.zero) (12, p) (Val.ofS (s.extract 0 (min s.size 200))))
theorem memSt_eq (p : Int) (s : ByteArray) : St.of (stK (fun _ => (12, p)) (fun _ => Val.ofS s) 1) = memSt p s := rfl
set_option maxRecDepth 100000 in
set_option maxHeartbeats 1000000 in
theorem law_memory (p : Int) (s : ByteArray) (hs : s.size ≤ 1000) (w : World) : Calls Try.prog 8 #[.int .i64 p, .string s] w fun e w' => ∃ t V, e = .returned (.pointer (some ⟨t, 0, none⟩)) ∧ TwoB w' t V (memSt p s) ∧ Fr (fun _ => False) w w' ∧ ∀ k, V.has k → w.heap.size ≤ k := by
  go_enter Try.func8, Try.ntmps8
  go_wp2_with fail
  refine (keep_new (w.heap.size + 1) 1 (fun _ => (12, p)) (fun _ => Val.ofS s) _ (by omega) ?_ (fun _ => Val.ofS_ok (by omega))).mono ?_
  · intro i hi
    obtain rfl : i = 0 := by omega
    exact (Blk.at_new (by simp)).rowAt (wr_size _ _)
  · rintro e w1 ⟨t, V, rfl, tb, f1, hv⟩
    rw [memSt_eq] at tb
    have HT := Lib.hid tb
    have HF := Lib.hid f1
    have HV := Lib.hid hv
    clear tb f1 hv
    go_wp2_with fail
    go_ret
    exact ⟨t, V, rfl, HT.out, (((Fr.refl _ _).alloc _).alloc _).trans HF.out, fun k hk => by have := HV.out k hk; simp at this; omega⟩

def zero16 : ByteArray := ⟨#[0, 0, 0, 0, 0, 0, 0, 0, 0, 0, 0, 0, 0, 0, 0, 0]⟩
def ar0 : St := memSt 0 zero16
def ar1 : St := (argPut ar0 0 3 ⟨#[97, 98]⟩).2
def ar2 : St := (argText ar1 0 3 5).2
def ar3 : St := (argText ar2 0 3 1).2
def ar4 : St := (argBytes ar3 0 14 2).2
def ar5 : St := (argBytes ar4 0 15 2).2
def ar6 : St := (argPut ar5 0 15 ⟨#[97, 98]⟩).2
theorem ae1 : argPut ar0 0 3 ⟨#[97, 98]⟩ = (true, ar1) := pair_eq2 (by decide +kernel)
theorem ae2 : argText ar1 0 3 5 = ((⟨#[97, 98]⟩, true), ar2) := pair_eq2 (by decide +kernel)
theorem ae3 : argText ar2 0 3 1 = ((⟨#[]⟩, false), ar3) := pair_eq2 (by decide +kernel)
theorem ae4 : argBytes ar3 0 14 2 = ((⟨#[0, 0]⟩, true), ar4) := pair_eq2 (by decide +kernel)
theorem ae5 : argBytes ar4 0 15 2 = ((⟨#[]⟩, false), ar5) := pair_eq2 (by decide +kernel)
theorem ae6 : argPut ar5 0 15 ⟨#[97, 98]⟩ = (false, ar6) := pair_eq2 (by decide +kernel)
theorem ar0_eq : ar0 = memSt 0 zero16 := rfl
attribute [local irreducible] ar0 ar1 ar2 ar3 ar4 ar5 ar6 memSt
section
variable {V : Vw} {w0 w : World} {O : List Own1}
theorem ac1 (h : Keeps V w0 ar0 O w) : Calls Try.prog 9 #[V.p, .int .i64 0, .int .i64 3, .string ⟨#[97, 98]⟩] w (Ret V w0 O w (.bool true) ar1) := by
  have k := arg_put 0 3 ⟨#[97, 98]⟩ (by decide) h
  rw [ae1] at k
  exact k
theorem ac2 (h : Keeps V w0 ar1 O w) : Calls Try.prog 10 #[V.p, .int .i64 0, .int .i64 3, .int .i64 5] w (Ret V w0 O w (.tuple #[.string ⟨#[97, 98]⟩, .bool true]) ar2) := by
  have k := arg_text 0 3 5 h
  rw [ae2] at k
  exact k
theorem ac3 (h : Keeps V w0 ar2 O w) : Calls Try.prog 10 #[V.p, .int .i64 0, .int .i64 3, .int .i64 1] w (Ret V w0 O w (.tuple #[.string ⟨#[]⟩, .bool false]) ar3) := by
  have k := arg_text 0 3 1 h
  rw [ae3] at k
  exact k
theorem ac4 (h : Keeps V w0 ar3 O w) : Calls Try.prog 11 #[V.p, .int .i64 0, .int .i64 14, .int .i64 2] w (Ret V w0 O w (.tuple #[.string ⟨#[0, 0]⟩, .bool true]) ar4) := by
  have k := arg_bytes 0 14 2 h
  rw [ae4] at k
  exact k
theorem ac5 (h : Keeps V w0 ar4 O w) : Calls Try.prog 11 #[V.p, .int .i64 0, .int .i64 15, .int .i64 2] w (Ret V w0 O w (.tuple #[.string ⟨#[]⟩, .bool false]) ar5) := by
  have k := arg_bytes 0 15 2 h
  rw [ae5] at k
  exact k
theorem ac6 (h : Keeps V w0 ar5 O w) : Calls Try.prog 9 #[V.p, .int .i64 0, .int .i64 15, .string ⟨#[97, 98]⟩] w (Ret V w0 O w (.bool false) ar6) := by
  have k := arg_put 0 15 ⟨#[97, 98]⟩ (by decide) h
  rw [ae6] at k
  exact k
end

set_option maxRecDepth 100000 in
set_option maxHeartbeats 1000000 in
theorem argRuns_any (w : World) : Calls Try.prog 3 #[] w fun e w' => e = .returned (.bool true) ∧ Fr (fun _ => False) w w' := by
  have hmk : ∀ w, (Instr.makeSlice 24 (.int .i64 16) (.int .i64 16)).run Try.prog w = .ok (.slice (some ⟨w.heap.size, 0, none⟩) 16 16) (w.alloc (.cells (madeCells #[.int .u8 0] 16) 5)) := fun w => made_byte 16 (by omega) w
  have HF0 := Lib.hid (show Fr (fun _ => False) w (w.alloc (.cells (madeCells #[.int .u8 0] 16) 5)) from (Fr.refl _ _).alloc _)
  have hcv := conv_bytes w.heap.size 16 16 (fun _ => 0) _ (Arr.at_new (w := w) (t := 5) (.int .u8 0) 16 rfl)
  rw [show strOfNums ((List.range 16).map (fun _ => 0)) = zero16 from rfl] at hcv
  go_enter Try.func3, Try.ntmps3
  go_wp2_with fail
  refine (law_memory 0 zero16 (by decide) _).mono ?_
  rintro e w1 ⟨t, V, rfl, tb, f1, hv⟩
  rw [← ar0_eq] at tb
  obtain ⟨q0, q1, q2, hB⟩ := tb.c
  have c1 : w1.cell? ⟨t, 1, none⟩ = some V.p := hB.cell 1
  have HK : Hid (Keeps V w1 ar0 [] w1) := by exact tb.vs.keeps
  have HF := Lib.hid f1
  have HV := Lib.hid hv
  clear tb f1 hv hB
  go_wp2_with (first | (go_at_call 9; (with_reducible refine (ac1 HK.out).mono ?_); rintro e w1 ⟨rfl, k1⟩; clear HK; have HK := Lib.hid k1.k; have F1 := Lib.hid k1.f; obtain ⟨s0, own⟩ := k1.facts; simp only [go_sem] at own; clear k1) | (go_at_call 10; (with_reducible refine (ac2 HK.out).mono ?_); rintro e w1 ⟨rfl, k1⟩; clear HK; have HK := Lib.hid k1.k; have F1 := Lib.hid k1.f; obtain ⟨s0, own⟩ := k1.facts; simp only [go_sem] at own; clear k1) | (go_at_call 10; (with_reducible refine (ac3 HK.out).mono ?_); rintro e w1 ⟨rfl, k1⟩; clear HK; have HK := Lib.hid k1.k; have F1 := Lib.hid k1.f; obtain ⟨s0, own⟩ := k1.facts; simp only [go_sem] at own; clear k1) | (go_at_call 11; (with_reducible refine (ac4 HK.out).mono ?_); rintro e w1 ⟨rfl, k1⟩; clear HK; have HK := Lib.hid k1.k; have F1 := Lib.hid k1.f; obtain ⟨s0, own⟩ := k1.facts; simp only [go_sem] at own; clear k1) | (go_at_call 11; (with_reducible refine (ac5 HK.out).mono ?_); rintro e w1 ⟨rfl, k1⟩; clear HK; have HK := Lib.hid k1.k; have F1 := Lib.hid k1.f; obtain ⟨s0, own⟩ := k1.facts; simp only [go_sem] at own; clear k1) | (go_at_call 9; (with_reducible refine (ac6 HK.out).mono ?_); rintro e w1 ⟨rfl, k1⟩; clear HK; have HK := Lib.hid k1.k; have F1 := Lib.hid k1.f; obtain ⟨s0, own⟩ := k1.facts; simp only [go_sem] at own; clear k1))
  go_ret
  refine ⟨rfl, ?_⟩
  exact (HF0.out.trans HF.out).step HK.out.fr (fun k hk hf => by have := HV.out k (Vw.foot_has hf); simp at this; omega)
theorem argRuns_walk (w : World) : Calls Try.prog 3 #[] w fun e w' => e = .returned (.bool true) ∧ Below w.heap.size w w' :=
  (argRuns_any w).mono fun _ _ ⟨h, f⟩ => ⟨h, f.below⟩
end Go.Proofs.Ytmgijchcfjmphaa
