import Derived.Test.YtmgijchcfjmphaaKey
import Derived.Test.YtmgijchcfjmphaaVal
import Derived.Laws.StructEq
namespace Go.Proofs.Ytmgijchcfjmphaa
open Go.RowKit

theorem key_chk (b : Bool) (k : Key) (w : World) : (Instr.checkKey b 10000 61 (keyV k)).run Try.prog w = .ok () w := by kernel_rfl
theorem key_equal (x y : Key) (w : World) : (Op.equal 61 (keyV x) (keyV y)).run Try.prog w = .ok (decide (x = y)) w := by
  obtain ⟨a, b⟩ := x
  obtain ⟨c, d⟩ := y
  have hi := Try.underlying3
  have p0 : ∀ (u v : Int) w, (part 3 #[Value.int .i64 u, Value.int .i64 v] 0).run Try.prog w = .ok (.int .i64 u) w := fun u v w => by kernel_rfl
  have p1 : ∀ (u v : Int) w, (part 3 #[Value.int .i64 u, Value.int .i64 v] 1).run Try.prog w = .ok (.int .i64 v) w := fun u v w => by kernel_rfl
  have h := Try.underlying61
  unfold keyV Op.equal Op.maxDepth
  rw [show (10000 : Nat) = 9998 + 1 + 1 from rfl, Op.equalIn]
  simp only [Sem.run_bind, run_underlying h, Result.andThen_ok, run_program]
  have hs : Try.prog.stoodInHeld 61 = false := by kernel_rfl
  simp [hs, p0, p1, run_equalIn_int _ _ _ _ _ _ _ hi]
  by_cases h1 : a = c
  · subst h1
    by_cases h2 : b = d
    · simp [h2]
    · simp [h2]
  · simp [h1]
theorem key_struct : KeyTy Try.prog 61 keyV where
  chk := key_chk
  same := by intro k; simp [Instr.sameBits]
  find := by
    intro k es l hes w
    have h := Try.underlying61
    have fn : ∀ (fs : Array Field) (es : List MapEntry), Instr.findNow (.struct fs) (keyV k) es 0 = match es with | [] => some none | _ :: _ => none := fun fs es => by cases es <;> rfl
    have fa : ∀ (es : List MapEntry) (l : List (Key × Value)) (i : Nat), es.map (fun e => (e.key, e.val)) = l.map (fun p => (keyV p.1, p.2)) → (Instr.findAsking 61 (keyV k) es i).run Try.prog w = .ok (findAt l k i) w := by
      intro es
      induction es with
      | nil =>
        intro l i hl
        cases l with
        | nil => rfl
        | cons p l => simp at hl
      | cons e es ih =>
        intro l i hl
        cases l with
        | nil => simp at hl
        | cons p l =>
          simp only [List.map_cons, List.cons.injEq, Prod.mk.injEq] at hl
          obtain ⟨⟨h1, h2⟩, h3⟩ := hl
          simp only [Instr.findAsking, Sem.run_bind, h1, key_equal, Result.andThen_ok, findAt]
          by_cases e : k = p.1
          · simp [e, h2]
          · simp only [e, decide_false, if_false, Bool.false_eq_true]
            exact ih l (i + 1) h3
    simp only [Instr.findKey, Sem.run_bind, run_underlying h, Result.andThen_ok, fn]
    cases es with
    | nil =>
      cases l with
      | nil => rfl
      | cons p l => simp at hes
    | cons e es => exact fa _ l 0 hes

/-- a value in Go's words -/
abbrev Val.v (x : Val) : Value := .agg x.cells
def Val.cell (x : Val) (j : Nat) : Value := if j < 16 then .int .i64 (x.n j) else .string x.s
theorem Val.cells_cell (x : Val) (j : Nat) (h : j < 17) : x.cells[j]? = some (x.cell j) := by
  unfold Val.cell
  split
  · rename_i h; exact x.cells_get j h
  · obtain rfl : j = 16 := by omega
    exact x.cells_str

/-- what a view stands for: the store's values, what was read, what was written -/
structure St where
  st : Nat → Val
  rd : Nat → Bool
  wr : Nat → Option Val

/-- its blocks: the view, the store, the store's row, the two maps -/
structure Vw where
  v : Nat
  s : Nat
  g : Nat
  r : Nat
  m : Nat
def Vw.foot (V : Vw) (k : Nat) : Prop := k = V.r ∨ k = V.m
def Vw.has (V : Vw) (k : Nat) : Prop := k = V.v ∨ k = V.s ∨ k = V.g ∨ k = V.r ∨ k = V.m
def Vw.p (V : Vw) : Value := .pointer (some ⟨V.v, 0, none⟩)

/-- block s is a store -/
structure StB (w : World) (s g : Nat) (st : Nat → Val) : Prop where
  h : Blk w s #[.slice (some ⟨g, 0, none⟩) 55 55] 85
  a : Rec w g 55 17 (fun i j => (st i).cell j) 59
  ok : ∀ i, (st i).Ok

structure VB (w : World) (V : Vw) (σ : St) (lr lw : List (Key × Value)) : Prop where
  h : Blk w V.v #[.pointer (some ⟨V.s, 0, none⟩), .map (some V.r), .map (some V.m)] 81
  s : StB w V.s V.g σ.st
  mr : MapB keyV w V.r lr
  mw : MapB keyV w V.m lw
  nr : (keysA lr).Nodup
  nw : (keysA lw).Nodup
  vr : ∀ k ∈ keysA lr, (place k).isSome
  vw : ∀ k ∈ keysA lw, (place k).isSome
  gr : ∀ k p, place k = some p → getA lr k = if σ.rd p then some (.bool true) else none
  gw : ∀ k p, place k = some p → getA lw k = (σ.wr p).map Val.v
  ne : V.r ≠ V.m
  ok : ∀ p x, σ.wr p = some x → x.Ok
/-- the view V stands for σ -/
def VS (w : World) (V : Vw) (σ : St) : Prop := ∃ lr lw, VB w V σ lr lw

theorem StB.row {w : World} {s g : Nat} {st : Nat → Val} (h : StB w s g st) {p : Nat} (hp : p < 55) : rowAt w g (p * 17) 17 = some (st p).cells := by
  obtain ⟨c, h1, h2, h3⟩ := h.a
  have hm : p * 17 + 17 ≤ 55 * 17 := by omega
  unfold Blk at h1
  unfold rowAt
  rw [h1]
  simp only [h2]
  rw [if_pos hm]
  congr 1
  apply Array.ext_getElem?
  intro j
  rw [Array.getElem?_extract]
  by_cases hj : j < 17
  · rw [if_pos (by omega), h3 p j hp hj, Val.cells_cell _ j hj]
  · rw [if_neg (by omega), Array.getElem?_eq_none (by rw [Val.cells_size]; omega)]
theorem StB.softRow {w : World} {s g : Nat} {st : Nat → Val} (h : StB w s g st) {p : Nat} (hp : p < 55) : softRow w g p = true := by
  obtain ⟨c, h1, h2, h3⟩ := h.a
  unfold Blk at h1
  unfold Proofs.Ytmgijchcfjmphaa.softRow
  rw [h1]
  simp [h2]
  omega
theorem StB.lay {w : World} {s g : Nat} {st : Nat → Val} (h : StB w s g st) {p : Nat} (hp : p < 55) {x : Val} (hx : x.Ok) : StB (layRow w g p x.cells) s g (upd st p x) := by
  have hgs : g ≠ s := h.a.ne h.h (by decide)
  obtain ⟨c, h1, h2, h3⟩ := h.a
  obtain ⟨c1, k1, k2, k3⟩ := layRow_at w g p 55 x.cells rfl h1 hp h2
  refine ⟨h.h.fr (layRow_fr _ _ _ _) (fun e => hgs e.symm), ⟨c1, k1, k2, fun i j hi hj => ?_⟩, fun i => ?_⟩
  · rw [k3 i j hi hj]
    show _ = some ((upd st p x i).cell j)
    by_cases e : i = p
    · subst e; rw [if_pos rfl, upd_self, Val.cells_cell _ j hj]
    · rw [if_neg e, upd_ne _ _ e, h3 i j hi hj]
  · by_cases e : i = p
    · subst e; rw [upd_self]; exact hx
    · rw [upd_ne _ _ e]; exact h.ok i
/-- a box that holds a value -/
abbrev Box (w : World) (b : Nat) (x : Val) : Prop := Blk w b x.cells 59
/-- what the walk asks of a box -/
structure Box.Facts (w : World) (b : Nat) (x : Val) : Prop where
  row : rowAt w b 0 17 = some x.cells
  soft : soft w b 17 = true
  cell : ∀ i, w.cell? ⟨b, i, none⟩ = x.cells[i]?
  frozen : ∀ i, w.frozen? ⟨b, i, none⟩ = false
  lt : b < w.heap.size
theorem Blk.facts {w : World} {b : Nat} {x : Val} {t : TypeId} (h : Blk w b x.cells t) : Box.Facts w b x := ⟨h.rowAt rfl, h.soft rfl, h.cell, h.frozen, h.lt⟩

theorem StB.fr {w w' : World} {s g : Nat} {st : Nat → Val} {S : Nat → Prop} (h : StB w s g st) (f : Fr S w w') (h1 : ¬ S s) (h2 : ¬ S g) : StB w' s g st := ⟨h.h.fr f h1, h.a.fr f h2, h.ok⟩
theorem VB.fr {w w' : World} {V : Vw} {σ : St} {lr lw : List (Key × Value)} {S : Nat → Prop} (h : VB w V σ lr lw) (f : Fr S w w') (hs : ∀ k, V.has k → ¬ S k) : VB w' V σ lr lw :=
  ⟨h.h.fr f (hs _ (.inl rfl)), h.s.fr f (hs _ (.inr (.inl rfl))) (hs _ (.inr (.inr (.inl rfl)))), h.mr.fr f (hs _ (.inr (.inr (.inr (.inl rfl))))), h.mw.fr f (hs _ (.inr (.inr (.inr (.inr rfl))))), h.nr, h.nw, h.vr, h.vw, h.gr, h.gw, h.ne, h.ok⟩
theorem VS.fr {w w' : World} {V : Vw} {σ : St} {S : Nat → Prop} (h : VS w V σ) (f : Fr S w w') (hs : ∀ k, V.has k → ¬ S k) : VS w' V σ := h.elim fun lr h => h.elim fun lw h => ⟨lr, lw, h.fr f hs⟩
theorem VS.fr0 {w w' : World} {V : Vw} {σ : St} (h : VS w V σ) (f : Fr (fun _ => False) w w') : VS w' V σ := h.fr f (fun _ _ => id)
theorem VB.lt {w : World} {V : Vw} {σ : St} {lr lw : List (Key × Value)} (h : VB w V σ lr lw) {k : Nat} (hk : V.has k) : k < w.heap.size := by
  rcases hk with rfl | rfl | rfl | rfl | rfl
  · exact h.h.lt
  · exact h.s.h.lt
  · exact h.s.a.lt
  · exact h.mr.lt
  · exact h.mw.lt
theorem VS.lt {w : World} {V : Vw} {σ : St} (h : VS w V σ) {k : Nat} (hk : V.has k) : k < w.heap.size := h.elim fun _ h => h.elim fun _ h => h.lt hk
theorem Vw.foot_has {V : Vw} {k : Nat} (h : V.foot k) : V.has k := h.elim (fun h => .inr (.inr (.inr (.inl h)))) (fun h => .inr (.inr (.inr (.inr h))))
/-- new blocks are no blocks of a view's -/
theorem VS.new {w : World} {V : Vw} {σ : St} (h : VS w V σ) {k : Nat} (hk : w.heap.size ≤ k) : ¬ V.foot k := fun hf => by have := h.lt (Vw.foot_has hf); omega

def St.get (σ : St) (k : Key) : Val := match place k with | none => Val.zero | some p => (σ.wr p).getD (σ.st p)
def St.got (σ : St) (k : Key) : St := match place k with | none => σ | some p => { σ with rd := upd σ.rd p true }
def St.put (σ : St) (k : Key) (x : Val) : St := match place k with | none => σ | some p => { σ with wr := upd σ.wr p (some x) }
theorem VS.ok {w : World} {V : Vw} {σ : St} (h : VS w V σ) (k : Key) : (σ.get k).Ok := by
  obtain ⟨lr, lw, h⟩ := h
  unfold St.get
  cases place k with
  | none => exact Val.zero_ok
  | some p =>
    cases e : σ.wr p with
    | none => simp only [e, Option.getD_none]; exact h.s.ok p
    | some x => simp only [e, Option.getD_some]; exact h.ok p x e

end Go.Proofs.Ytmgijchcfjmphaa
