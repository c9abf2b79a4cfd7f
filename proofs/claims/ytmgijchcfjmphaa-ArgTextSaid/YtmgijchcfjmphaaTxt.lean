import Derived.Test.YtmgijchcfjmphaaArr
import Derived.Laws.BytesArg
namespace Go.Proofs.Ytmgijchcfjmphaa
open Go.RowKit

theorem info_u8' : (Try.prog.info? 5).map (fun i => (i.zero, i.size, i.bytes)) = some (some (.int .u8 0), 1, 1) := by kernel_rfl
theorem made_byte (n : Nat) (h : n ≤ 1000000) (w : World) :
    (Instr.makeSlice 24 (.int .i64 (n : Int)) (.int .i64 (n : Int))).run Try.prog w = .ok (.slice (some ⟨w.heap.size, 0, none⟩) n n) (w.alloc (.cells (madeCells #[.int .u8 0] n) 5)) :=
  made1 _ _ _ _ 1 Try.underlying24 info_u8' rfl n (by omega) (by omega) w
theorem conv_bytes (b n cap : Nat) (f : Nat → Int) (w : World) (h : Arr w b n (fun i => .int .u8 (f i)) 5) :
    (convert 24 9 (.slice (some ⟨b, 0, none⟩) n cap)).run Try.prog w = .ok (.string (strOfNums ((List.range n).map f))) w :=
  run_convert_bytes_arg w _ _ Try.underlying24 Try.underlying5 b 0 n cap _ (by simp) (fun i hi => by
    rw [Nat.zero_add, h.cell hi]
    simp [List.getD, hi]) _ Try.underlying9
/-- the byte at i of the text of n -/
def tch (n : Nat) (i : Nat) : Int := 97 + (((n + i) % 26 : Nat) : Int)
def txt (n k : Nat) : ByteArray := strOfNums ((List.range k).map (tch n))
theorem txt_size (n k : Nat) : (txt n k).size = k := by simp [txt, strOfNums_size]
def tchTo (n i : Nat) (j : Nat) : Int := if j < i then tch n j else 0
theorem tch_fin : ∀ r : Fin 26, wrap64 (97 + bits BinOp.and IntKind.i64 (r.val : Int) 31) % 256 = 97 + (r.val : Int) := by decide +kernel
theorem tch_eq (n i : Nat) : wrap64 (97 + bits BinOp.and IntKind.i64 (((n : Int) + (i : Int)) % 26) 31) % 256 = tch n i := by
  have h := tch_fin ⟨(n + i) % 26, by omega⟩
  unfold tch
  rw [← h]
  simp
set_option maxRecDepth 100000 in
set_option maxHeartbeats 1000000 in
theorem keep_text (n k : Nat) (hn : n ≤ 1000000) (hk : k ≤ 1000000) (w : World) : Calls Try.prog 12 #[.int .i64 n, .int .i64 k] w fun e w' => e = .returned (.string (txt n k)) ∧ Fr (fun _ => False) w w' := by
  have hmk := made_byte k hk
  have hk0 : ¬ ((k : Int) < 0) := by omega
  have hk1 : (0 : Int) ≤ k := by omega
  have HA := Lib.hid (Arr.at_new (w := w) (b := w.heap.size) (t := 5) (.int .u8 0) k rfl)
  go_enter Try.func12, Try.ntmps12
  go_wp2_with fail
  have HF0 := Lib.hid (show Fr (fun _ => False) w (w.alloc (.cells (madeCells #[.int .u8 0] k) 5)) from (Fr.refl _ _).alloc _)
  obtain ⟨b, hb⟩ : ∃ b, b = w.heap.size := ⟨_, rfl⟩
  rw [← hb] at HA ⊢
  have HB := Lib.hid (show w.heap.size ≤ b by omega)
  clear hb hmk
  go_loopw [12] (fun t12 wr => ∃ i : Nat, i ≤ k ∧ t12 = .int .i64 i ∧ Arr wr b k (fun j => .int .u8 (tchTo n i j)) 5 ∧ Fr (fun _ => False) w wr) (fun t12 _ => (k - intOf t12).toNat)
  case atStart => exact ⟨0, by omega, rfl, HA.out, HF0.out⟩
  case round =>
    obtain ⟨i, hi, rfl, hA, hF⟩ := hrel
    have HF := Lib.hid hF
    clear hF HF0 HA
    by_cases hlt : i < k
    · have hlt' : (i : Int) < k := by omega
      have hc := hA.cell hlt
      have hfz := hA.frozen i
      have hbl := hA.lt
      have HA := Lib.hid hA
      clear hA
      go_wp2_with fail
      rw [tch_eq]
      refine ⟨⟨i + 1, by omega, by go_num, (HA.out.set i _).congr (fun j hj => ?_), HF.out.step (Fr.set1 _ _ _ _) (fun x hx e => by have := HB.out; omega)⟩, by simp [intOf]; omega⟩
      by_cases hji : j = i
      · subst hji; rw [upd_self]; unfold tchTo; rw [if_pos (by omega)]
      · rw [upd_ne _ _ hji]
        unfold tchTo
        by_cases hl : j < i
        · rw [if_pos hl, if_pos (by omega)]
        · rw [if_neg hl, if_neg (by omega)]
    · have hlt' : ¬ (i : Int) < k := by omega
      obtain rfl : i = k := by omega
      have hcv := conv_bytes b i i (tchTo n i) _ hA
      have HE := Lib.hid (show strOfNums ((List.range i).map (tchTo n i)) = txt n i by
        unfold txt
        congr 1
        apply List.map_congr_left
        intro j hj
        unfold tchTo
        rw [if_pos (List.mem_range.1 hj)])
      rw [HE.out] at hcv
      clear hA
      go_wp2_with fail
      go_ret
      exact ⟨rfl, HF.out⟩
end Go.Proofs.Ytmgijchcfjmphaa
