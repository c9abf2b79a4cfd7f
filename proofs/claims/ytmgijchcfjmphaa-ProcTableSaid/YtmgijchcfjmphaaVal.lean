import Derived.Test.YtmgijchcfjmphaaChecked
import Derived.Test.YtmgijchcfjmphaaArr
import Derived.Test.YtmgijchcfjmphaaAsk
import Derived.Deep.MidRow
namespace Go.Proofs.Ytmgijchcfjmphaa
open Go.RowKit

/-! ### Rows of cells, taken and laid whole -/
/-- n cells of block b from o on -/
def rowAt (w : World) (b o n : Nat) : Option (Array Value) := match w.heap[b]? with
  | some (.cells c _ _) => if o + n ≤ c.size then some (c.extract o (o + n)) else none
  | _ => none
/-- may block b, of n cells, be written? -/
def soft (w : World) (b n : Nat) : Bool := match w.heap[b]? with
  | some (.cells c _ f) => c.size == n && f == (0, 0)
  | _ => false
/-- block b, written whole -/
def putRow (w : World) (b : Nat) (c : Array Value) : World := { w with heap := w.heap.modify b fun | .cells _ t f => .cells c t f | o => o }

theorem rowAt_cell {w : World} {b o n : Nat} {c : Array Value} (h : rowAt w b o n = some c) : c.size = n ∧ ∀ j, j < n → w.cell? ⟨b, o + j, none⟩ = c[j]? := by
  unfold rowAt at h
  split at h
  · rename_i c0 t f hb
    split at h
    · rename_i hn
      simp only [Option.some.injEq] at h
      subst h
      refine ⟨by simp; omega, fun j hj => ?_⟩
      simp only [World.cell?, hb, Option.isSome_none, Bool.false_eq_true, if_false, Array.getElem?_extract]
      rw [if_pos (by omega)]
    · simp at h
  · simp at h

theorem addr_add (b o j : Nat) : (⟨b, o, none⟩ : Addr).add j = ⟨b, o + j, none⟩ := by
  unfold Addr.add; split
  · rename_i h; subst h; rfl
  · rfl

theorem run_load_row {P : Program} {ty : TypeId} {n : Nat} {d : TypeDesc} (hu : P.underlying ty = some d) (hd : (match d with | .struct _ | .array _ _ => true | _ => false) = true) (hi : (P.info? ty).map (·.size) = some n)
    {w : World} {b o : Nat} {c : Array Value} (h : rowAt w b o n = some c) : (loadVar ty ⟨b, o, none⟩).run P w = .ok (.agg c) w := by
  obtain ⟨hs, hc⟩ := rowAt_cell h
  have hl : (loadCells ⟨b, o, none⟩ c.toList.length).run P w = .ok c.toList.toArray w :=
    run_loadCells_list (P := P) w ⟨b, o, none⟩ c.toList (fun j v hv => by
      have hj : j < c.size := by have := (List.getElem?_eq_some_iff.1 hv).1; simpa using this
      rw [addr_add, hc j (by omega)]
      simpa using hv)
  cases hq : P.info? ty with
  | none => simp [hq] at hi
  | some i =>
    have hs2 : i.size = c.size := by simp [hq] at hi; omega
    have hagg : (isAgg ty).run P w = .ok true w := by
      unfold isAgg
      rw [Sem.run_bind, run_underlying hu w]
      cases d <;> simp_all
    simp only [Array.length_toList, Array.toArray_toList] at hl
    simp [loadVar, Sem.run_bind, hagg, sizeOf, typeInfo, hq, hs2, hl]

/-- what is loaded, where the row isn't known -/
def loadElse (P : Program) (ty : TypeId) (b o : Nat) (w : World) := (loadVar ty ⟨b, o, none⟩).run P w
theorem load_rule {P : Program} {ty : TypeId} {n : Nat} {d : TypeDesc} (hu : P.underlying ty = some d) (hd : (match d with | .struct _ | .array _ _ => true | _ => false) = true) (hi : (P.info? ty).map (·.size) = some n)
    (w : World) (b o : Nat) : (loadVar ty ⟨b, o, none⟩).run P w = match rowAt w b o n with | some c => .ok (.agg c) w | none => loadElse P ty b o w := by
  cases h : rowAt w b o n with
  | none => rfl
  | some c => exact run_load_row hu hd hi h

def setAll (c : Array Value) : Nat → List Value → Array Value
  | _, [] => c
  | o, v :: r => setAll (c.setIfInBounds o v) (o + 1) r
theorem setAll_size (c : Array Value) (o : Nat) (vs : List Value) : (setAll c o vs).size = c.size := by
  induction vs generalizing c o with
  | nil => rfl
  | cons v r ih => simp [setAll, ih]
theorem setAll_get (c : Array Value) (o : Nat) (vs : List Value) (j : Nat) (hj : j < c.size) : (setAll c o vs)[j]? = if o ≤ j ∧ j < o + vs.length then vs[j - o]? else c[j]? := by
  induction vs generalizing c o with
  | nil => rw [if_neg (by simp only [List.length_nil]; omega)]; rfl
  | cons v r ih =>
    rw [setAll, ih _ _ (by simpa using hj), Array.getElem?_setIfInBounds]
    by_cases e : o = j
    · subst e
      rw [if_neg (by omega), if_pos rfl, if_pos hj, if_pos ⟨by omega, by simp⟩]
      simp
    · by_cases h1 : o + 1 ≤ j ∧ j < o + 1 + r.length
      · rw [if_pos h1, if_pos ⟨by omega, by simp; omega⟩, show j - o = (j - (o + 1)) + 1 by omega]
        simp
      · rw [if_neg h1, if_neg e, if_neg (by simp only [List.length_cons]; omega)]
theorem setAll_whole (c x : Array Value) (h : x.size = c.size) : setAll c 0 x.toList = x := by
  apply Array.ext_getElem?
  intro j
  by_cases hj : j < c.size
  · rw [setAll_get _ _ _ _ hj, if_pos ⟨by omega, by simp; omega⟩]
    simp
  · rw [Array.getElem?_eq_none (by rw [setAll_size]; omega), Array.getElem?_eq_none (by omega)]
theorem modify_modify {α : Type} (a : Array α) (i : Nat) (f g : α → α) : (a.modify i f).modify i g = a.modify i (fun x => g (f x)) := by
  apply Array.ext_getElem?
  intro j
  simp only [Array.getElem?_modify]
  split
  · cases a[j]? <;> rfl
  · rfl
theorem modify_congr {α : Type} (a : Array α) (i : Nat) (f g : α → α) (h : ∀ x, a[i]? = some x → f x = g x) : a.modify i f = a.modify i g := by
  apply Array.ext_getElem?
  intro j
  simp only [Array.getElem?_modify]
  split
  · rename_i e; subst e
    cases hx : a[i]? with
    | none => rfl
    | some x => simp [h x hx]
  · rfl
theorem setCells_modify (b : Nat) (vs : List Value) : ∀ (w : World) (o : Nat), w.setCells b o vs = { w with heap := w.heap.modify b fun | .cells c t f => .cells (setAll c o vs) t f | o => o } := by
  induction vs with
  | nil =>
    intro w o
    have e : w.heap = w.heap.modify b fun | .cells c t f => .cells (setAll c o []) t f | o => o := by
      apply Array.ext_getElem?
      intro j
      simp only [Array.getElem?_modify]
      split
      · rename_i e; subst e
        cases hx : w.heap[b]? with
        | none => rfl
        | some x => cases x <;> rfl
      · rfl
    show w = _
    rw [← e]
  | cons v r ih =>
    intro w o
    rw [World.setCells, ih]
    simp only [World.setCell, modify_modify]
    congr 1
    apply modify_congr
    intro x _
    cases x <;> rfl
theorem putRow_eq {w : World} {b : Nat} {c : Array Value} (h : soft w b c.size = true) : w.setCells b 0 c.toList = putRow w b c := by
  rw [setCells_modify, putRow]
  congr 1
  apply modify_congr
  intro x hx
  unfold soft at h
  rw [hx] at h
  cases x with
  | cells c0 t f =>
    simp at h
    simp only
    rw [setAll_whole c0 c (by omega)]
  | _ => rfl
theorem run_store_row {P : Program} {ty : TypeId} {w : World} {b : Nat} {c : Array Value} (h : soft w b c.size = true) (hi : (P.info? ty).map (·.size) = some c.size) (h1 : c.all (·.oneCell') = true) :
    (storeVar ty ⟨b, 0, none⟩ (.agg c)).run P w = .ok () (putRow w b c) := by
  rw [← putRow_eq h]
  refine run_storeVar_mid w b 0 ty c (fun j hj => ?_) hi h1
  unfold soft at h
  split at h
  · rename_i c0 t f hb
    simp at h
    obtain ⟨h2, rfl⟩ := h
    refine ⟨?_, ?_⟩
    · simp [World.cell?, hb]; omega
    · simp [World.frozen?, hb]
  · simp at h
/-- each cell is one -/
def single (c : Array Value) : Bool := c.all (·.oneCell')
def storeElse (P : Program) (ty : TypeId) (b : Nat) (c : Array Value) (w : World) := (storeVar ty ⟨b, 0, none⟩ (.agg c)).run P w
theorem store_rule {P : Program} {ty : TypeId} {n : Nat} (hi : (P.info? ty).map (·.size) = some n) (w : World) (b : Nat) (c : Array Value) :
    (storeVar ty ⟨b, 0, none⟩ (.agg c)).run P w = if soft w b n = true ∧ c.size = n ∧ single c = true then .ok () (putRow w b c) else storeElse P ty b c w := by
  split
  · rename_i h
    obtain ⟨h1, rfl, h3⟩ := h
    exact run_store_row h1 hi h3
  · rfl

section
variable (w : World)
theorem rowAt_alloc_new (c : Array Value) (t : TypeId) (b n : Nat) (hb : b = w.heap.size) (hc : c.size = n) : rowAt (w.alloc (.cells c t)) b 0 n = some c := by
  subst hb; subst hc
  have : (w.alloc (.cells c t)).heap[w.heap.size]? = some (.cells c t (0, 0)) := Blk.new w c t
  simp only [rowAt, this]
  rw [if_pos (by omega)]
  simp
theorem rowAt_alloc_old (o : Obj) (b i n : Nat) (hb : b < w.heap.size) : rowAt (w.alloc o) b i n = rowAt w b i n := by
  simp only [rowAt, Below.heap_alloc w o b hb]
theorem rowAt_drew (b i n : Nat) : rowAt w.drew b i n = rowAt w b i n := rfl
theorem rowAt_drewN (q b i n : Nat) : rowAt (w.drewN q) b i n = rowAt w b i n := rfl
theorem rowAt_setCell (a : Addr) (v : Value) (b i n : Nat) (hb : b ≠ a.block) : rowAt (w.setCell a v) b i n = rowAt w b i n := by
  simp only [rowAt, Below.heap_setCell w a v b hb]
theorem rowAt_setCell_same (b i n : Nat) (v : Value) (hi : i < n) : rowAt (w.setCell ⟨b, i, none⟩ v) b 0 n = (rowAt w b 0 n).map (fun c => c.setIfInBounds i v) := by
  simp only [rowAt, World.setCell, Array.getElem?_modify, if_true]
  cases hb : w.heap[b]? with
  | none => rfl
  | some o =>
    cases o with
    | cells c t f =>
      simp only [Option.map_some, Option.isSome_none, Bool.false_eq_true, if_false, Array.size_setIfInBounds]
      by_cases h : 0 + n ≤ c.size
      · rw [if_pos h, if_pos h]
        simp only [Option.map_some, Option.some.injEq]
        apply Array.ext_getElem?
        intro j
        simp only [Array.getElem?_extract, Array.getElem?_setIfInBounds, Nat.zero_add, Nat.sub_zero, Array.size_extract]
        by_cases e : i = j
        · subst e; have h1 : i < c.size := by omega
          have h2 : i < min n c.size := by omega
          simp [h1, h2]
        · simp [e]
      · rw [if_neg h, if_neg h]; rfl
    | _ => rfl
theorem soft_alloc_new (c : Array Value) (t : TypeId) (b n : Nat) (hb : b = w.heap.size) (hc : c.size = n) : soft (w.alloc (.cells c t)) b n = true := by
  subst hb; subst hc
  have : (w.alloc (.cells c t)).heap[w.heap.size]? = some (.cells c t (0, 0)) := Blk.new w c t
  simp only [soft, this]
  simp
theorem soft_alloc_old (o : Obj) (b n : Nat) (hb : b < w.heap.size) : soft (w.alloc o) b n = soft w b n := by
  simp only [soft, Below.heap_alloc w o b hb]
theorem soft_drew (b n : Nat) : soft w.drew b n = soft w b n := rfl
theorem soft_drewN (q b n : Nat) : soft (w.drewN q) b n = soft w b n := rfl
theorem soft_setCell (a : Addr) (v : Value) (b n : Nat) : soft (w.setCell a v) b n = soft w b n := by
  simp only [soft, World.setCell, Array.getElem?_modify]
  by_cases e : a.block = b
  · subst e
    rw [if_pos rfl]
    cases w.heap[a.block]? with
    | none => rfl
    | some x =>
      cases x with
      | cells c t f => simp only [Option.map_some]; split <;> simp
      | _ => rfl
  · rw [if_neg e]

theorem putRow_heap_ne (b : Nat) (c : Array Value) (k : Nat) (h : k ≠ b) : (putRow w b c).heap[k]? = w.heap[k]? := by
  simp only [putRow, Array.getElem?_modify]; rw [if_neg (fun e => h e.symm)]
theorem putRow_heap (b : Nat) (c : Array Value) : (putRow w b c).heap[b]? = (w.heap[b]?).map fun | .cells _ t f => .cells c t f | o => o := by
  simp only [putRow, Array.getElem?_modify, if_true]
theorem putRow_size (b : Nat) (c : Array Value) : (putRow w b c).heap.size = w.heap.size := by simp [putRow]
theorem putRow_drew (b : Nat) (c : Array Value) : putRow w.drew b c = (putRow w b c).drew := rfl
theorem putRow_drewN (q b : Nat) (c : Array Value) : putRow (w.drewN q) b c = (putRow w b c).drewN q := rfl
theorem putRow_alloc_new (c0 c : Array Value) (t : TypeId) (b : Nat) (hb : b = w.heap.size) : putRow (w.alloc (.cells c0 t)) b c = w.alloc (.cells c t) := by
  subst hb
  have hn : (w.heap.push (Obj.cells c0 t)).modify w.heap.size (fun | .cells _ t f => .cells c t f | o => o) = w.heap.push (Obj.cells c t) := by
    apply Array.ext_getElem?
    intro j
    simp only [Array.getElem?_modify, Array.getElem?_push]
    by_cases e : w.heap.size = j
    · subst e; simp
    · rw [if_neg e, if_neg (fun h => e h.symm), if_neg (fun h => e h.symm)]
  show ({ w with heap := (w.heap.push (Obj.cells c0 t)).modify w.heap.size _ } : World) = { w with heap := w.heap.push (Obj.cells c t) }
  rw [← hn]
theorem cell_putRow (b : Nat) (c : Array Value) (i n : Nat) (h : soft w b n = true) : (putRow w b c).cell? ⟨b, i, none⟩ = c[i]? := by
  unfold soft at h
  split at h
  · rename_i c0 t f hb
    simp [World.cell?, putRow_heap, hb]
  · simp at h
theorem cell_putRow_ne (b : Nat) (c : Array Value) (a : Addr) (h : a.block ≠ b) : (putRow w b c).cell? a = w.cell? a := by
  simp only [World.cell?, putRow_heap_ne w b c _ h]
theorem frozen_putRow (b : Nat) (c : Array Value) (a : Addr) : (putRow w b c).frozen? a = w.frozen? a := by
  by_cases e : a.block = b
  · subst e
    simp only [World.frozen?, putRow_heap]
    cases w.heap[a.block]? with
    | none => rfl
    | some x => cases x <;> rfl
  · simp only [World.frozen?, putRow_heap_ne w b c _ e]
theorem rowAt_putRow (b : Nat) (c : Array Value) (n : Nat) (h : soft w b n = true) (hc : c.size = n) : rowAt (putRow w b c) b 0 n = some c := by
  unfold soft at h
  split at h
  · rename_i c0 t f hb
    subst hc
    simp [rowAt, putRow_heap, hb]
  · simp at h
theorem rowAt_putRow_ne (b : Nat) (c : Array Value) (k i n : Nat) (h : k ≠ b) : rowAt (putRow w b c) k i n = rowAt w k i n := by
  simp only [rowAt, putRow_heap_ne w b c _ h]
theorem soft_putRow_ne (b : Nat) (c : Array Value) (k n : Nat) (h : k ≠ b) : soft (putRow w b c) k n = soft w k n := by
  simp only [soft, putRow_heap_ne w b c _ h]
theorem putRow_fr (b : Nat) (c : Array Value) : Fr (fun k => k = b) w (putRow w b c) := ⟨rfl, rfl, rfl, by rw [putRow_size]; exact Nat.le_refl _, fun k _ hs => putRow_heap_ne w b c k hs⟩
end
theorem Blk.rowAt {w : World} {b : Nat} {c : Array Value} {t : TypeId} (h : Blk w b c t) {n : Nat} (hn : c.size = n) : rowAt w b 0 n = some c := by
  unfold Blk at h
  subst hn
  simp [Proofs.Ytmgijchcfjmphaa.rowAt, h]
theorem Blk.soft {w : World} {b : Nat} {c : Array Value} {t : TypeId} (h : Blk w b c t) {n : Nat} (hn : c.size = n) : soft w b n = true := by
  unfold Blk at h
  subst hn
  simp [Proofs.Ytmgijchcfjmphaa.soft, h]
theorem Blk.putRow {w : World} {b : Nat} {c : Array Value} {t : TypeId} (h : Blk w b c t) (c' : Array Value) : Blk (putRow w b c') b c' t := by
  unfold Blk at h ⊢
  rw [putRow_heap, h]
  rfl

/-! ### Objects' values -/
/-- an object's value -/
structure Val where
  n : Nat → Int
  s : ByteArray
def Val.ofS (s : ByteArray) : Val := ⟨fun _ => 0, s⟩
def Val.zero : Val := Val.ofS ⟨#[]⟩
def Val.set (x : Val) (i : Nat) (v : Int) : Val := { x with n := upd x.n i v }
def Val.str (x : Val) (s : ByteArray) : Val := { x with s := s }
def Val.cells (x : Val) : Array Value := #[.int .i64 (x.n 0), .int .i64 (x.n 1), .int .i64 (x.n 2), .int .i64 (x.n 3), .int .i64 (x.n 4), .int .i64 (x.n 5), .int .i64 (x.n 6), .int .i64 (x.n 7), .int .i64 (x.n 8), .int .i64 (x.n 9), .int .i64 (x.n 10), .int .i64 (x.n 11), .int .i64 (x.n 12), .int .i64 (x.n 13), .int .i64 (x.n 14), .int .i64 (x.n 15), .string x.s]
theorem Val.cells_size (x : Val) : x.cells.size = 17 := by simp [Val.cells]
theorem Val.cells_single (x : Val) : single x.cells = true := by simp [single, Val.cells, Value.oneCell']
theorem Val.cells_get (x : Val) (i : Nat) (h : i < 16) : x.cells[i]? = some (.int .i64 (x.n i)) := by
  match i, h with
  | 0, _ => rfl
  | 1, _ => rfl
  | 2, _ => rfl
  | 3, _ => rfl
  | 4, _ => rfl
  | 5, _ => rfl
  | 6, _ => rfl
  | 7, _ => rfl
  | 8, _ => rfl
  | 9, _ => rfl
  | 10, _ => rfl
  | 11, _ => rfl
  | 12, _ => rfl
  | 13, _ => rfl
  | 14, _ => rfl
  | 15, _ => rfl
  | i + 16, h => omega
theorem Val.cells_str (x : Val) : x.cells[16]? = some (.string x.s) := by simp [Val.cells]
theorem Val.cells_num (x : Val) (i : Nat) (h : i < x.cells.size) (h2 : i < 16) : x.cells[i] = .int .i64 (x.n i) := by
  have := x.cells_get i h2
  rw [Array.getElem?_eq_getElem h] at this
  exact Option.some.inj this
theorem Val.cells_end (x : Val) (h : 16 < x.cells.size) : x.cells[16] = .string x.s := by
  have := x.cells_str
  rw [Array.getElem?_eq_getElem h] at this
  exact Option.some.inj this
theorem Val.ext_cells {x : Val} {c : Array Value} (hs : c.size = 17) (h : ∀ i, i < 16 → c[i]? = some (.int .i64 (x.n i))) (h2 : c[16]? = some (.string x.s)) : c = x.cells := by
  apply Array.ext_getElem?
  intro j
  by_cases h1 : j < 16
  · rw [h j h1, x.cells_get j h1]
  · by_cases h3 : j = 16
    · subst h3; rw [h2, x.cells_str]
    · rw [Array.getElem?_eq_none (by omega), Array.getElem?_eq_none (by rw [x.cells_size]; omega)]
theorem Val.cells_set (x : Val) (i : Nat) (v : Int) (h : i < 16) : x.cells.setIfInBounds i (.int .i64 v) = (x.set i v).cells := by
  refine Val.ext_cells (by simp [x.cells_size]) (fun j hj => ?_) ?_
  · rw [Array.getElem?_setIfInBounds]
    by_cases e : i = j
    · subst e; rw [if_pos rfl, if_pos (by rw [x.cells_size]; omega)]; simp [Val.set, upd_self]
    · rw [if_neg e, x.cells_get j hj]; simp [Val.set, upd_ne _ _ (fun h => e h.symm)]
  · rw [Array.getElem?_setIfInBounds, if_neg (by omega)]; rfl
theorem Val.cells_setStr (x : Val) (s : ByteArray) : x.cells.setIfInBounds 16 (.string s) = (x.str s).cells := by
  refine Val.ext_cells (by simp [x.cells_size]) (fun j hj => ?_) ?_
  · rw [Array.getElem?_setIfInBounds, if_neg (by omega), x.cells_get j hj]; rfl
  · rw [Array.getElem?_setIfInBounds, if_pos rfl, if_pos (by rw [x.cells_size]; omega)]; rfl
theorem Val.fold (s : ByteArray) : (#[.int .i64 0, .int .i64 0, .int .i64 0, .int .i64 0, .int .i64 0, .int .i64 0, .int .i64 0, .int .i64 0, .int .i64 0, .int .i64 0, .int .i64 0, .int .i64 0, .int .i64 0, .int .i64 0, .int .i64 0, .int .i64 0, .string s] : Array Value) = (Val.ofS s).cells := rfl
theorem Val.nums (x : Val) (i : Nat) (h : i < 16) : (x.cells.extract 0 16)[i]? = some (.int .i64 (x.n i)) := by
  rw [Array.getElem?_extract, if_pos (by rw [x.cells_size]; omega), Nat.zero_add]; exact x.cells_get i h
theorem Val.set_n (x : Val) (i : Nat) (v : Int) (j : Nat) : (x.set i v).n j = if j = i then v else x.n j := rfl
theorem Val.set_s (x : Val) (i : Nat) (v : Int) : (x.set i v).s = x.s := rfl
theorem Val.str_n (x : Val) (s : ByteArray) : (x.str s).n = x.n := rfl
theorem Val.str_s (x : Val) (s : ByteArray) : (x.str s).s = s := rfl
theorem Val.ofS_n (s : ByteArray) (j : Nat) : (Val.ofS s).n j = 0 := rfl
theorem Val.ofS_s (s : ByteArray) : (Val.ofS s).s = s := rfl

structure Val.Ok (x : Val) : Prop where
  n : ∀ i, In64 (x.n i)
  s : x.s.size ≤ 1000000000
theorem Val.zero_ok : Val.zero.Ok := ⟨fun _ => by unfold Val.zero Val.ofS In64; simp, by unfold Val.zero Val.ofS; simp [ByteArray.size]⟩

theorem val_info : (Try.prog.info? 59).map (·.size) = some 17 := by kernel_rfl
theorem val_zero (w : World) : (zeroValue 59).run Try.prog w = .ok (.agg (Val.ofS ⟨#[]⟩).cells) w := by kernel_rfl
theorem val_load (w : World) (b o : Nat) : (loadVar 59 ⟨b, o, none⟩).run Try.prog w = match rowAt w b o 17 with | some c => .ok (.agg c) w | none => loadElse Try.prog 59 b o w :=
  load_rule Try.underlying59 rfl val_info w b o
theorem val_store (w : World) (b : Nat) (c : Array Value) : (storeVar 59 ⟨b, 0, none⟩ (.agg c)).run Try.prog w = if soft w b 17 = true ∧ c.size = 17 ∧ single c = true then .ok () (putRow w b c) else storeElse Try.prog 59 b c w :=
  store_rule val_info w b c
def loadV (a : Value) : Sem Value := Instr.loadAt 59 a
def storeV (a v : Value) : Sem Unit := Instr.storeAt 59 a v
def loadW (a : Addr) : Sem Value := loadVar 59 a
theorem loadV_rule (a : Value) : Instr.loadAt 59 a = loadV a := rfl
theorem storeV_rule (a v : Value) : Instr.storeAt 59 a v = storeV a v := rfl
theorem loadW_rule (a : Addr) : loadVar 59 a = loadW a := rfl
theorem loadW_run (w : World) (b o : Nat) : (loadW ⟨b, o, none⟩).run Try.prog w = match rowAt w b o 17 with | some c => .ok (.agg c) w | none => loadElse Try.prog 59 b o w := val_load w b o
theorem loadV_run (w : World) (b o : Nat) : (loadV (.pointer (some ⟨b, o, none⟩))).run Try.prog w = match rowAt w b o 17 with | some c => .ok (.agg c) w | none => loadElse Try.prog 59 b o w := by
  rw [← val_load w b o, loadV, Instr.loadAt, Instr.sureAddr]
  simp only [Sem.run_bind, Sem.run_pure, Result.andThen_ok]
theorem storeV_run (w : World) (b : Nat) (c : Array Value) : (storeV (.pointer (some ⟨b, 0, none⟩)) (.agg c)).run Try.prog w = if soft w b 17 = true ∧ c.size = 17 ∧ single c = true then .ok () (putRow w b c) else storeElse Try.prog 59 b c w := by
  rw [← val_store w b c, storeV, Instr.storeAt, Instr.sureAddr]
  simp only [Sem.run_bind, Sem.run_pure, Result.andThen_ok]
/-- one of a row of values, laid -/
def layRow (w : World) (b p : Nat) (c : Array Value) : World := w.setCells b (p * 17) c.toList
def softRow (w : World) (b p : Nat) : Bool := match w.heap[b]? with
  | some (.cells c _ f) => decide (p * 17 + 17 ≤ c.size) && f == (0, 0)
  | _ => false
theorem storeV_row (w : World) (b p : Nat) (c : Array Value) : (storeV (.pointer (some ⟨b, p * 17, none⟩)) (.agg c)).run Try.prog w = if softRow w b p = true ∧ c.size = 17 ∧ single c = true then .ok () (layRow w b p c) else (Instr.storeAt 59 (.pointer (some ⟨b, p * 17, none⟩)) (.agg c)).run Try.prog w := by
  split
  · rename_i h
    obtain ⟨h1, h2, h3⟩ := h
    refine run_storeAt_mid w b (p * 17) _ c (fun j hj => ?_) (h2 ▸ val_info) h3
    unfold softRow at h1
    split at h1
    · rename_i c0 t f hb
      simp at h1
      obtain ⟨h2', rfl⟩ := h1
      refine ⟨?_, ?_⟩
      · simp [World.cell?, hb]; omega
      · simp [World.frozen?, hb]
    · simp at h1
  · rfl
theorem softRow_drew (w : World) (b p : Nat) : softRow w.drew b p = softRow w b p := rfl
theorem softRow_drewN (w : World) (q b p : Nat) : softRow (w.drewN q) b p = softRow w b p := rfl
theorem layRow_drew (w : World) (b p : Nat) (c : Array Value) : layRow w.drew b p c = (layRow w b p c).drew := by
  unfold layRow
  rw [setCells_modify, setCells_modify]
  rfl
theorem layRow_at (w : World) (b p n : Nat) (c : Array Value) (hc : c.size = 17) {t : TypeId} {c0 : Array Value} (h : Blk w b c0 t) (hp : p < n) (h0 : c0.size = n * 17) :
    ∃ c1, Blk (layRow w b p c) b c1 t ∧ c1.size = n * 17 ∧ ∀ i j, i < n → j < 17 → c1[i * 17 + j]? = if i = p then c[j]? else c0[i * 17 + j]? := by
  unfold layRow
  rw [setCells_modify]
  unfold Blk at h
  refine ⟨setAll c0 (p * 17) c.toList, ?_, by rw [setAll_size, h0], fun i j hi hj => ?_⟩
  · unfold Blk
    simp only [Array.getElem?_modify, if_true, h, Option.map_some]
  · rw [setAll_get _ _ _ _ (by omega)]
    by_cases e : i = p
    · subst e
      rw [if_pos ⟨by omega, by simp; omega⟩, if_pos rfl, show i * 17 + j - i * 17 = j by omega]
      simp
    · rw [if_neg e, if_neg (by simp; omega)]
theorem layRow_fr (w : World) (b p : Nat) (c : Array Value) : Fr (fun k => k = b) w (layRow w b p c) := by
  unfold layRow
  rw [setCells_modify]
  exact ⟨rfl, rfl, rfl, by simp, fun k _ hs => by simp only [Array.getElem?_modify]; rw [if_neg (fun e => hs e.symm)]⟩
theorem val_field1 (x : Val) (w : World) : (Instr.field 59 (.agg x.cells) 1).run Try.prog w = .ok (.string x.s) w := by kernel_rfl
/-- a value's numbers -/
def Val.row (x : Val) : Value := .agg (x.cells.extract 0 16)
theorem val_field0 (x : Val) (w : World) : (Instr.field 59 (.agg x.cells) 0).run Try.prog w = .ok x.row w := by kernel_rfl
theorem val_index0 (x : Val) (w : World) : (Instr.index 57 x.row (.int .i64 0)).run Try.prog w = .ok (.int .i64 (x.n 0)) w := by kernel_rfl
theorem val_index1 (x : Val) (w : World) : (Instr.index 57 x.row (.int .i64 1)).run Try.prog w = .ok (.int .i64 (x.n 1)) w := by kernel_rfl
theorem val_index2 (x : Val) (w : World) : (Instr.index 57 x.row (.int .i64 2)).run Try.prog w = .ok (.int .i64 (x.n 2)) w := by kernel_rfl
theorem val_index3 (x : Val) (w : World) : (Instr.index 57 x.row (.int .i64 3)).run Try.prog w = .ok (.int .i64 (x.n 3)) w := by kernel_rfl
theorem val_index4 (x : Val) (w : World) : (Instr.index 57 x.row (.int .i64 4)).run Try.prog w = .ok (.int .i64 (x.n 4)) w := by kernel_rfl
theorem val_index5 (x : Val) (w : World) : (Instr.index 57 x.row (.int .i64 5)).run Try.prog w = .ok (.int .i64 (x.n 5)) w := by kernel_rfl
theorem val_index6 (x : Val) (w : World) : (Instr.index 57 x.row (.int .i64 6)).run Try.prog w = .ok (.int .i64 (x.n 6)) w := by kernel_rfl
theorem val_index7 (x : Val) (w : World) : (Instr.index 57 x.row (.int .i64 7)).run Try.prog w = .ok (.int .i64 (x.n 7)) w := by kernel_rfl
theorem val_index8 (x : Val) (w : World) : (Instr.index 57 x.row (.int .i64 8)).run Try.prog w = .ok (.int .i64 (x.n 8)) w := by kernel_rfl
theorem val_index9 (x : Val) (w : World) : (Instr.index 57 x.row (.int .i64 9)).run Try.prog w = .ok (.int .i64 (x.n 9)) w := by kernel_rfl
theorem val_index10 (x : Val) (w : World) : (Instr.index 57 x.row (.int .i64 10)).run Try.prog w = .ok (.int .i64 (x.n 10)) w := by kernel_rfl
theorem val_index11 (x : Val) (w : World) : (Instr.index 57 x.row (.int .i64 11)).run Try.prog w = .ok (.int .i64 (x.n 11)) w := by kernel_rfl
theorem val_index12 (x : Val) (w : World) : (Instr.index 57 x.row (.int .i64 12)).run Try.prog w = .ok (.int .i64 (x.n 12)) w := by kernel_rfl
theorem val_index13 (x : Val) (w : World) : (Instr.index 57 x.row (.int .i64 13)).run Try.prog w = .ok (.int .i64 (x.n 13)) w := by kernel_rfl
theorem val_index14 (x : Val) (w : World) : (Instr.index 57 x.row (.int .i64 14)).run Try.prog w = .ok (.int .i64 (x.n 14)) w := by kernel_rfl
theorem val_index15 (x : Val) (w : World) : (Instr.index 57 x.row (.int .i64 15)).run Try.prog w = .ok (.int .i64 (x.n 15)) w := by kernel_rfl
attribute [go_sem ↓] val_field1 val_field0 val_index0 val_index1 val_index2 val_index3 val_index4 val_index5 val_index6 val_index7 val_index8 val_index9 val_index10 val_index11 val_index12 val_index13 val_index14 val_index15
/-- a value as the result -/
theorem results_val {fn : Func} {p : Tmp} (h : fn.results = #[.cell p 59]) {tmps : Array Value} {w : World} {b : Nat} {c : Array Value}
    (hp : tmps.getD p undef = .pointer (some ⟨b, 0, none⟩)) (hr : rowAt w b 0 17 = some c) : (results fn tmps).run Try.prog w = .ok (.agg c) w := by
  have hp' : tmps[p]?.getD undef = .pointer (some ⟨b, 0, none⟩) := by simpa using hp
  have hl := val_load w b 0
  rw [hr] at hl
  simp [results, h, hp', asAddr, hl]
theorem results_val2 {fn : Func} {p q : Tmp} (h : fn.results = #[.cell p 59, .tmp q]) {tmps : Array Value} {w : World} {b : Nat} {c : Array Value}
    (hp : tmps.getD p undef = .pointer (some ⟨b, 0, none⟩)) (hr : rowAt w b 0 17 = some c) : (results fn tmps).run Try.prog w = .ok (.tuple #[.agg c, tmps.getD q undef]) w := by
  have hp' : tmps[p]?.getD undef = .pointer (some ⟨b, 0, none⟩) := by simpa using hp
  have hl := val_load w b 0
  rw [hr] at hl
  simp [results, h, hp', asAddr, hl]
attribute [go_sem ↓] val_zero loadV_rule storeV_rule loadW_rule
attribute [go_sem] loadV_run storeV_run storeV_row loadW_run softRow_drew softRow_drewN layRow_drew
attribute [go_sem] Val.set_n Val.set_s Val.str_n Val.str_s Val.ofS_n Val.ofS_s Val.cells_num Val.cells_end Val.cells_size Val.cells_single Val.cells_get Val.cells_str Val.cells_set Val.cells_setStr Val.fold Val.nums
attribute [go_sem] rowAt_alloc_new rowAt_alloc_old rowAt_drew rowAt_drewN rowAt_setCell rowAt_setCell_same soft_alloc_new soft_alloc_old soft_drew soft_drewN soft_setCell putRow_size putRow_drew putRow_drewN putRow_alloc_new cell_putRow cell_putRow_ne frozen_putRow rowAt_putRow rowAt_putRow_ne soft_putRow_ne
end Go.Proofs.Ytmgijchcfjmphaa
