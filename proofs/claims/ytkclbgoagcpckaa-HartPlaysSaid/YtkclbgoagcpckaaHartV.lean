import Derived.Test.YtkclbgoagcpckaaHartT
import Derived.Test.YtkclbgoagcpckaaHartA
import Derived.Test.YtkclbgoagcpckaaOpen
import Derived.Laws.Rows
namespace Go.Proofs.Ytkclbgoagcpckaa
open Go.RowKit

/-- a slice of the law's asks, as it is read -/
def AsksH (w : World) (a : Option Addr) (len : Nat) (K H M : Nat → Int) (B : Nat → Bool) : Prop :=
  len = 0 ∨ ∃ b off, a = some ⟨b, off, none⟩ ∧ b < w.heap.size ∧ ∀ i, i < len → w.cell? ⟨b, off + i * 4, none⟩ = some (.int .i64 (K i)) ∧ w.cell? ⟨b, off + i * 4 + 1, none⟩ = some (.int .i64 (H i)) ∧ w.cell? ⟨b, off + i * 4 + 2, none⟩ = some (.int .i64 (M i)) ∧ w.cell? ⟨b, off + i * 4 + 3, none⟩ = some (.bool (B i))
theorem AsksH.of {w : World} {a : Option Addr} {len cap : Nat} {V : Nat → Nat → Value} (s : IsSl [.int .i64, .int .i64, .int .i64, .bool] w a len cap V) : ∃ K H M B, AsksH w a len K H M B := by
  rcases s.cases with h | ⟨b, off, rfl, hb, _, hc⟩
  · exact ⟨fun _ => 0, fun _ => 0, fun _ => 0, fun _ => false, .inl h⟩
  · obtain ⟨K, hK⟩ := ok_ints (k := .i64) (fun i hi => (hc i 0 _ hi rfl).2)
    obtain ⟨H, hH⟩ := ok_ints (k := .i64) (fun i hi => (hc i 1 _ hi rfl).2)
    obtain ⟨M, hM⟩ := ok_ints (k := .i64) (fun i hi => (hc i 2 _ hi rfl).2)
    obtain ⟨B, hB⟩ := ok_bools (fun i hi => (hc i 3 _ hi rfl).2)
    refine ⟨K, H, M, B, .inr ⟨b, off, rfl, hb, fun i hi => ⟨?_, ?_, ?_, ?_⟩⟩⟩
    · have := (hc i 0 _ hi rfl).1; rw [(hK i hi).1] at this; exact this
    · have := (hc i 1 _ hi rfl).1; rw [(hH i hi).1] at this; exact this
    · have := (hc i 2 _ hi rfl).1; rw [(hM i hi).1] at this; exact this
    · have := (hc i 3 _ hi rfl).1; rw [hB i hi] at this; exact this
theorem AsksH.at {w w' : World} {a : Option Addr} {len : Nat} {K H M : Nat → Int} {B : Nat → Bool} (h : AsksH w a len K H M B) (f : Fr (fun _ => False) w w') : AsksH w' a len K H M B := by
  rcases h with h | ⟨b, off, ha, hb, hc⟩
  · exact .inl h
  · have e : ∀ j, w'.cell? ⟨b, j, none⟩ = w.cell? ⟨b, j, none⟩ := fun j => World.cell?_of_block (f.block b hb id)
    exact .inr ⟨b, off, ha, Nat.lt_of_lt_of_le hb f.size, fun i hi => ⟨(e _).trans (hc i hi).1, (e _).trans (hc i hi).2.1, (e _).trans (hc i hi).2.2.1, (e _).trans (hc i hi).2.2.2⟩⟩

theorem HD.is {n : Nat} {F F' : Nat → HOne} {kind h m got : Int} {on took : Bool} {s : Stp} (d : HD n F kind h m on s got took F') : s = .ok ∨ ∃ a b, s = .stop a b ∧ (a = 3 ∨ a = 4 ∨ a = 9) := by
  cases d <;> first | exact .inl rfl | exact .inr ⟨_, _, rfl, .inl rfl⟩ | exact .inr ⟨_, _, rfl, .inr (.inl rfl)⟩ | exact .inr ⟨_, _, rfl, .inr (.inr rfl)⟩

/-- i deeds were done -/
def HartRel (w0 : World) (bn bx bo bw bs bm x g n len : Nat) (t13 : Value) (w : World) : Prop :=
  ∃ (i : Nat) (F : Nat → HOne) (on wa : Nat → Bool) (ne : Nat → Int) (ma : Nat → Nat → Bool), i ≤ 50 ∧ i ≤ len ∧ t13 = .int .i64 i ∧ HartsB w x g n F ∧ HBk bo bw bs bm n on wa ne ma w ∧ HRel n i F on wa ne ma ∧ Blk w bn #[.int .i64 n] 3 ∧ Blk w bx #[.pointer (some ⟨x, 0, none⟩)] 45 ∧ Fr (fun _ => False) w0 w

theorem on_step (k : Nat) : upd (fun j => decide (j < k)) k true = fun j => decide (j < k + 1) := by
  funext j
  unfold upd
  by_cases e : j = k
  · subst e; simp
  · rw [if_neg e]
    by_cases h : j < k
    · simp [h]; omega
    · simp [h]; omega
theorem HRel.start (n : Nat) : HRel n 0 (fun _ => ⟨true, false, 0, 0⟩) (fun j => decide (j < n)) (fun _ => false) (fun _ => 0) (fun _ _ => false) := fun i hi =>
  ⟨decide_eq_true hi, rfl, fun j _ => by simp [hasb], fun h => absurd rfl h, Nat.le_refl _, show (0 : Nat) < 256 by omega⟩
/-- a whole struct or array, loaded out of the middle of a row -/
theorem wpList_load_cells {P : Program} {ops : Array Oper} {rest : List Oper} {o : Oper} {a : Act} {w : World} {Q : Exit → Act → World → Prop} (hgd : o.guard = none) (ty : TypeId) (x : Operand) (ho : o.op = .load ty x)
    (g q : Nat) (hx : a.eval x = .pointer (some ⟨g, q, none⟩)) (cs : List Value) (d : TypeDesc) (hg : ∀ (j : Nat) v, cs[j]? = some v → w.cell? ⟨g, q + j, none⟩ = some v)
    (hu : P.underlying ty = some d) (hd : (match d with | .struct _ | .array _ _ => true | _ => false) = true) (hi : (P.info? ty).map (·.size) = some cs.length)
    (h : wpList P ops Q rest (a.put o.dst (.agg cs.toArray)) w) : wpList P ops Q (o :: rest) a w := by
  have hrun : (loadVar ty ⟨g, q, none⟩).run P w = .ok (.agg cs.toArray) w := by
    have hl : (loadCells ⟨g, q, none⟩ cs.length).run P w = .ok cs.toArray w :=
      run_loadCells_list (P := P) w ⟨g, q, none⟩ cs (fun j v hv => by
        have hadd : (⟨g, q, none⟩ : Addr).add j = ⟨g, q + j, none⟩ := by unfold Addr.add; split <;> simp_all
        rw [hadd]
        exact hg j v hv)
    cases hq : P.info? ty with
    | none => simp [hq] at hi
    | some i =>
      have hs : i.size = cs.length := by simpa [hq] using hi
      have hagg : (isAgg ty).run P w = .ok true w := by
        unfold isAgg
        rw [Sem.run_bind, run_underlying hu w]
        cases d <;> simp_all
      simp [loadVar, Sem.run_bind, hagg, sizeOf, typeInfo, hq, hs, hl]
  refine wpList_plain hgd fun _ hK => ?_
  unfold Oper.wp execOp
  simp only [ho, hx, Instr.loadAt, Instr.sureAddr, Sem.run_bind, Sem.run_pure, Result.andThen_ok, hrun]
  exact hK _ _ h
theorem info_arr8 : (Try.prog.info? 54).map (·.size) = some 8 := by kernel_rfl
theorem Fr.drewN0 (w : World) (q : Nat) : Fr (fun _ => False) w (w.drewN q) := ⟨rfl, rfl, rfl, Nat.le_refl _, fun _ _ _ => rfl⟩
theorem stop_store {wc : World} {bw : Nat} (b : Blk wc bw #[.int .i64 0, .int .i64 0] 40) (p q : Int) :
    Blk ((wc.setCell ⟨bw, 0, none⟩ (.int .i64 p)).setCell ⟨bw, 1, none⟩ (.int .i64 q)) bw #[.int .i64 p, .int .i64 q] 40 ∧ Fr (fun k => k = bw) wc ((wc.setCell ⟨bw, 0, none⟩ (.int .i64 p)).setCell ⟨bw, 1, none⟩ (.int .i64 q)) :=
  ⟨(b.set 0 (.int .i64 p)).set 1 (.int .i64 q), (Fr.set1 _ _ _ _).trans (Fr.set1 _ _ _ _)⟩
theorem idx8 (f : Nat → Bool) (j : Nat) (hj : j < 8) (w : World) : (Instr.index 54 (.agg #[.bool (f 0), .bool (f 1), .bool (f 2), .bool (f 3), .bool (f 4), .bool (f 5), .bool (f 6), .bool (f 7)]) (.int .i64 (j : Int))).run Try.prog w = .ok (.bool (f j)) w := by
  have h : ∀ a0 a1 a2 a3 a4 a5 a6 a7 : Bool, ∀ w,
      ((Instr.index 54 (.agg #[.bool a0, .bool a1, .bool a2, .bool a3, .bool a4, .bool a5, .bool a6, .bool a7]) (.int .i64 0)).run Try.prog w = .ok (.bool a0) w) ∧
      ((Instr.index 54 (.agg #[.bool a0, .bool a1, .bool a2, .bool a3, .bool a4, .bool a5, .bool a6, .bool a7]) (.int .i64 1)).run Try.prog w = .ok (.bool a1) w) ∧
      ((Instr.index 54 (.agg #[.bool a0, .bool a1, .bool a2, .bool a3, .bool a4, .bool a5, .bool a6, .bool a7]) (.int .i64 2)).run Try.prog w = .ok (.bool a2) w) ∧
      ((Instr.index 54 (.agg #[.bool a0, .bool a1, .bool a2, .bool a3, .bool a4, .bool a5, .bool a6, .bool a7]) (.int .i64 3)).run Try.prog w = .ok (.bool a3) w) ∧
      ((Instr.index 54 (.agg #[.bool a0, .bool a1, .bool a2, .bool a3, .bool a4, .bool a5, .bool a6, .bool a7]) (.int .i64 4)).run Try.prog w = .ok (.bool a4) w) ∧
      ((Instr.index 54 (.agg #[.bool a0, .bool a1, .bool a2, .bool a3, .bool a4, .bool a5, .bool a6, .bool a7]) (.int .i64 5)).run Try.prog w = .ok (.bool a5) w) ∧
      ((Instr.index 54 (.agg #[.bool a0, .bool a1, .bool a2, .bool a3, .bool a4, .bool a5, .bool a6, .bool a7]) (.int .i64 6)).run Try.prog w = .ok (.bool a6) w) ∧
      ((Instr.index 54 (.agg #[.bool a0, .bool a1, .bool a2, .bool a3, .bool a4, .bool a5, .bool a6, .bool a7]) (.int .i64 7)).run Try.prog w = .ok (.bool a7) w) := fun a0 a1 a2 a3 a4 a5 a6 a7 w =>
    ⟨by kernel_rfl, by kernel_rfl, by kernel_rfl, by kernel_rfl, by kernel_rfl, by kernel_rfl, by kernel_rfl, by kernel_rfl⟩
  obtain ⟨h0, h1, h2, h3, h4, h5, h6, h7⟩ := h (f 0) (f 1) (f 2) (f 3) (f 4) (f 5) (f 6) (f 7) w
  match j, hj with
  | 0, _ => exact h0
  | 1, _ => exact h1
  | 2, _ => exact h2
  | 3, _ => exact h3
  | 4, _ => exact h4
  | 5, _ => exact h5
  | 6, _ => exact h6
  | 7, _ => exact h7
  | j + 8, hj => omega
end Go.Proofs.Ytkclbgoagcpckaa
