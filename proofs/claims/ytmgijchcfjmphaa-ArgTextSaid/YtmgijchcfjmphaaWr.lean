import Derived.Test.YtmgijchcfjmphaaViewP
namespace Go.Proofs.Ytmgijchcfjmphaa
open Go.RowKit

/-- a write's cells: its key, its value -/
def wrCells (k : Key) (x : Val) : Array Value := #[.int .i64 k.1, .int .i64 k.2] ++ x.cells
theorem wr_size (k : Key) (x : Val) : (wrCells k x).size = 19 := by simp [wrCells, Val.cells_size]
theorem wr_single (k : Key) (x : Val) : single (wrCells k x) = true := by
  have h : (wrCells k x).toList.all (·.oneCell') = true := by
    have e : (wrCells k x).toList = Value.int .i64 k.1 :: Value.int .i64 k.2 :: x.cells.toList := by simp [wrCells]
    have hx : x.cells.toList.all (·.oneCell') = true := by simp [Val.cells, Value.oneCell']
    rw [e]
    simp only [List.all_cons, hx]
    rfl
  unfold single
  rw [← Array.all_toList]
  exact h
theorem wr_get0 (k : Key) (x : Val) : (wrCells k x)[0]? = some (.int .i64 k.1) := by unfold wrCells; rw [Array.getElem?_append_left (by simp)]; rfl
theorem wr_get1 (k : Key) (x : Val) : (wrCells k x)[1]? = some (.int .i64 k.2) := by unfold wrCells; rw [Array.getElem?_append_left (by simp)]; rfl
theorem wr_get (k : Key) (x : Val) (j : Nat) : (wrCells k x)[j + 2]? = x.cells[j]? := by
  unfold wrCells
  rw [Array.getElem?_append_right (by simp)]
  simp
theorem wr_str (k : Key) (x : Val) : (wrCells k x)[18]? = some (.string x.s) := by rw [wr_get k x 16]; exact x.cells_str
theorem wr_sub (k : Key) (x : Val) : (wrCells k x).extract 2 19 = x.cells := by
  apply Array.ext_getElem?
  intro j
  rw [Array.getElem?_extract, wr_size]
  by_cases h : j < 17
  · rw [if_pos (by omega), Nat.add_comm, wr_get]
  · rw [if_neg (by omega), Array.getElem?_eq_none (by rw [Val.cells_size]; omega)]
theorem wr_setStr (k : Key) (x : Val) (s : ByteArray) : (wrCells k x).setIfInBounds 18 (.string s) = wrCells k (x.str s) := by
  apply Array.ext_getElem?
  intro j
  rw [Array.getElem?_setIfInBounds, wr_size]
  by_cases h : 18 = j
  · subst h; rw [if_pos rfl, if_pos (by omega), wr_str]; rfl
  · rw [if_neg h]
    match j with
    | 0 => rw [wr_get0, wr_get0]
    | 1 => rw [wr_get1, wr_get1]
    | j + 2 =>
      rw [wr_get, wr_get]
      by_cases h2 : j < 16
      · rw [Val.cells_get _ _ h2, Val.cells_get _ _ h2]; rfl
      · rw [Array.getElem?_eq_none (by rw [Val.cells_size]; omega), Array.getElem?_eq_none (by rw [Val.cells_size]; omega)]
theorem wr_info : (Try.prog.info? 63).map (·.size) = some 19 := by kernel_rfl
theorem wr_zero (w : World) : (zeroValue 63).run Try.prog w = .ok (.agg (wrCells (0, 0) (Val.ofS ⟨#[]⟩))) w := by kernel_rfl
def loadT (a : Value) : Sem Value := Instr.loadAt 63 a
def storeT (a v : Value) : Sem Unit := Instr.storeAt 63 a v
theorem loadT_rule (a : Value) : Instr.loadAt 63 a = loadT a := rfl
theorem storeT_rule (a v : Value) : Instr.storeAt 63 a v = storeT a v := rfl
theorem loadT_run (w : World) (b o : Nat) : (loadT (.pointer (some ⟨b, o, none⟩))).run Try.prog w = match rowAt w b o 19 with | some c => .ok (.agg c) w | none => loadElse Try.prog 63 b o w := by
  refine Eq.trans ?_ (load_rule Try.underlying63 rfl wr_info w b o)
  rw [loadT, Instr.loadAt, Instr.sureAddr]
  simp only [Sem.run_bind, Sem.run_pure, Result.andThen_ok]
theorem storeT_run (w : World) (b : Nat) (c : Array Value) : (storeT (.pointer (some ⟨b, 0, none⟩)) (.agg c)).run Try.prog w = if soft w b 19 = true ∧ c.size = 19 ∧ single c = true then .ok () (putRow w b c) else storeElse Try.prog 63 b c w := by
  refine Eq.trans ?_ (store_rule wr_info w b c)
  rw [storeT, Instr.storeAt, Instr.sureAddr]
  simp only [Sem.run_bind, Sem.run_pure, Result.andThen_ok]
/-- a part of a new row -/
theorem rowAt_alloc_sub (w : World) (k : Key) (x : Val) (t : TypeId) (b : Nat) (hb : b = w.heap.size) : rowAt (w.alloc (.cells (wrCells k x) t)) b 2 17 = some x.cells := by
  subst hb
  have h : (w.alloc (.cells (wrCells k x) t)).heap[w.heap.size]? = some (.cells (wrCells k x) t (0, 0)) := Blk.new w _ t
  simp only [rowAt, h, wr_size]
  rw [if_pos (by omega), wr_sub]
theorem wr_rowAt {w : World} {b : Nat} {k : Key} {x : Val} {t : TypeId} (h : Blk w b (wrCells k x) t) : rowAt w b 2 17 = some x.cells := by
  unfold Blk at h
  simp only [rowAt, h, wr_size]
  rw [if_pos (by omega), wr_sub]
def buildV (ps : Array (Nat × Value)) : Sem Value := Instr.build 59 ps
def buildT (ps : Array (Nat × Value)) : Sem Value := Instr.build 63 ps
def buildTs (n : Nat) (ps : Array (Nat × Value)) : Sem Value := Instr.buildSlice 64 n ps
theorem buildV_rule (ps : Array (Nat × Value)) : Instr.build 59 ps = buildV ps := rfl
theorem buildT_rule (ps : Array (Nat × Value)) : Instr.build 63 ps = buildT ps := rfl
theorem buildTs_rule (n : Nat) (ps : Array (Nat × Value)) : Instr.buildSlice 64 n ps = buildTs n ps := rfl
theorem buildV_none (w : World) : (buildV #[]).run Try.prog w = .ok (.agg (Val.ofS ⟨#[]⟩).cells) w := by kernel_rfl
theorem buildV_str (s : ByteArray) (w : World) : (buildV #[(1, .string s)]).run Try.prog w = .ok (.agg (Val.ofS s).cells) w := by kernel_rfl
theorem buildT_run (a b : Int) (x : Val) (w : World) : (buildT #[(0, .agg #[.int .i64 a, .int .i64 b]), (1, .agg x.cells)]).run Try.prog w = .ok (.agg (wrCells (a, b) x)) w := by kernel_rfl
theorem buildTs_run (k : Key) (x : Val) (w : World) : (buildTs 1 #[(0, .agg (wrCells k x))]).run Try.prog w = .ok (.slice (some ⟨w.heap.size, 0, none⟩) 1 1) (w.alloc (.cells (wrCells k x) 63)) := by kernel_rfl
attribute [go_sem ↓] buildV_rule buildT_rule buildTs_rule
attribute [go_sem] buildV_none buildV_str buildT_run buildTs_run
attribute [go_sem ↓] wr_zero loadT_rule storeT_rule
attribute [go_sem] loadT_run storeT_run wr_size wr_single wr_setStr rowAt_alloc_sub
attribute [go_sem ↓] wr_get0 wr_get1 wr_get wr_str
attribute [local irreducible] wrCells
end Go.Proofs.Ytmgijchcfjmphaa
