import Derived.Test.YtoifefcbegdjdaaLib
import Derived.OwnWalk
import Derived.Carry
import Derived.Maps.OwnSet
namespace Go.Proofs.Ytoifefcbegdjdaa
open Go.RowKit

variable {κ : Type} [DecidableEq κ]

/-- where a key stands -/
def findAt : List (κ × Value) → κ → Nat → Option (Nat × Value)
  | [], _, _ => none
  | p :: l, k, i => if k = p.1 then some (i, p.2) else findAt l k (i + 1)
def getA (l : List (κ × Value)) (k : κ) : Option Value := (findAt l k 0).map (·.2)
def insA : List (κ × Value) → κ → Value → List (κ × Value)
  | [], k, v => [(k, v)]
  | p :: l, k, v => if k = p.1 then (k, v) :: l else p :: insA l k v
def delA : List (κ × Value) → κ → List (κ × Value)
  | [], _ => []
  | p :: l, k => if k = p.1 then l else p :: delA l k

theorem findAt_shift (l : List (κ × Value)) (k : κ) (i : Nat) : findAt l k i = (findAt l k 0).map fun x => (x.1 + i, x.2) := by
  induction l generalizing i with
  | nil => rfl
  | cons p l ih =>
    simp only [findAt]
    split
    · simp
    · rw [ih (i + 1), ih (0 + 1)]
      cases findAt l k 0 with
      | none => rfl
      | some x => simp; omega
theorem getA_cons (p : κ × Value) (l : List (κ × Value)) (k : κ) : getA (p :: l) k = if k = p.1 then some p.2 else getA l k := by
  unfold getA
  simp only [findAt]
  split
  · rfl
  · rw [findAt_shift]; cases findAt l k 0 <;> rfl
theorem getA_ins (l : List (κ × Value)) (k : κ) (v : Value) (q : κ) : getA (insA l k v) q = if q = k then some v else getA l q := by
  induction l with
  | nil => simp [insA, getA, findAt]
  | cons p l ih =>
    simp only [insA]
    split
    · rename_i h; subst h; rw [getA_cons, getA_cons]; simp only; split <;> rfl
    · rename_i h
      rw [getA_cons, ih, getA_cons]
      by_cases e : q = p.1
      · rw [if_pos e, if_pos e, if_neg (fun e2 => h (by rw [← e2, e]))]
      · rw [if_neg e, if_neg e]
def keysA (l : List (κ × Value)) : List κ := l.map (·.1)
theorem getA_none {l : List (κ × Value)} {k : κ} (h : k ∉ keysA l) : getA l k = none := by
  induction l with
  | nil => rfl
  | cons p l ih =>
    simp [keysA] at h
    rw [getA_cons, if_neg h.1]
    exact ih (by simpa [keysA] using h.2)
theorem getA_some {l : List (κ × Value)} {k : κ} (h : k ∈ keysA l) : ∃ v, getA l k = some v := by
  induction l with
  | nil => simp [keysA] at h
  | cons p l ih =>
    rw [getA_cons]
    split
    · exact ⟨_, rfl⟩
    · rename_i hne
      refine ih ?_
      simp [keysA] at h ⊢
      rcases h with h | h
      · exact absurd h hne
      · exact h
theorem mem_ins {l : List (κ × Value)} {k q : κ} {v : Value} : q ∈ keysA (insA l k v) ↔ q = k ∨ q ∈ keysA l := by
  induction l with
  | nil => simp [insA, keysA]
  | cons p l ih =>
    simp only [insA]
    split
    · rename_i h; subst h; simp [keysA]
    · simp only [keysA, List.map_cons, List.mem_cons] at ih ⊢
      rw [ih]; constructor
      · rintro (h | h | h)
        · exact .inr (.inl h)
        · exact .inl h
        · exact .inr (.inr h)
      · rintro (h | h | h)
        · exact .inr (.inl h)
        · exact .inl h
        · exact .inr (.inr h)
theorem nodup_ins {l : List (κ × Value)} (h : (keysA l).Nodup) (k : κ) (v : Value) : (keysA (insA l k v)).Nodup := by
  induction l with
  | nil => simp [insA, keysA]
  | cons p l ih =>
    simp [keysA] at h
    simp only [insA]
    split
    · rename_i e; subst e; simpa [keysA] using h
    · rename_i e
      simp only [keysA, List.map_cons, List.nodup_cons]
      refine ⟨fun hm => ?_, ih (by simpa [keysA] using h.2)⟩
      rcases mem_ins.1 hm with h' | h'
      · exact e h'.symm
      · simp [keysA] at h'; exact absurd h' (by simpa using h.1)
theorem mem_del_sub {l : List (κ × Value)} {k q : κ} (h : q ∈ keysA (delA l k)) : q ∈ keysA l := by
  induction l with
  | nil => exact h
  | cons p l ih =>
    simp only [delA] at h
    split at h
    · simp [keysA] at h ⊢; exact .inr h
    · simp only [keysA, List.map_cons, List.mem_cons] at h ⊢
      exact h.imp id ih
theorem nodup_del {l : List (κ × Value)} (h : (keysA l).Nodup) (k : κ) : (keysA (delA l k)).Nodup := by
  induction l with
  | nil => simp [delA, keysA]
  | cons p l ih =>
    simp only [keysA, List.map_cons, List.nodup_cons] at h
    simp only [delA]
    split
    · exact h.2
    · simp only [keysA, List.map_cons, List.nodup_cons]
      exact ⟨fun hm => h.1 (mem_del_sub hm), ih h.2⟩
theorem getA_del {l : List (κ × Value)} (h : (keysA l).Nodup) (k q : κ) : getA (delA l k) q = if q = k then none else getA l q := by
  induction l with
  | nil => simp [delA, getA, findAt]
  | cons p l ih =>
    simp only [keysA, List.map_cons, List.nodup_cons] at h
    simp only [delA]
    split
    · rename_i e; subst e
      rw [getA_cons]
      by_cases e2 : q = p.1
      · subst e2; rw [if_pos rfl]; exact getA_none h.1
      · rw [if_neg e2, if_neg e2]
    · rename_i e
      rw [getA_cons, ih h.2, getA_cons]
      by_cases e2 : q = p.1
      · subst e2; rw [if_pos rfl, if_pos rfl, if_neg (fun e3 => e e3.symm)]
      · rw [if_neg e2, if_neg e2]

omit [DecidableEq κ] in
theorem map_erase {α β : Type} (f : α → β) (l : List α) (i : Nat) : (l.eraseIdx i).map f = (l.map f).eraseIdx i := by
  induction l generalizing i with
  | nil => rfl
  | cons a l ih => cases i <;> simp [ih]

/-- the kind of a map's keys -/
structure KeyTy (P : Program) (kt : TypeId) (enc : κ → Value) : Prop where
  chk : ∀ (b : Bool) (k : κ) (w : World), (Instr.checkKey b 10000 kt (enc k)).run P w = .ok () w
  find : ∀ (k : κ) (es : List MapEntry) (l : List (κ × Value)), es.map (fun e => (e.key, e.val)) = l.map (fun p => (enc p.1, p.2)) → ∀ w : World, (Instr.findKey kt (enc k) es).run P w = .ok (findAt l k 0) w
  same : ∀ k, Instr.sameBits 10000 (enc k) (enc k) = true

/-- block b is a map that reads so -/
def MapB (enc : κ → Value) (w : World) (b : Nat) (l : List (κ × Value)) : Prop := ∃ es clk, w.heap[b]? = some (.map es clk) ∧ es.toList.map (fun e => (e.key, e.val)) = l.map (fun p => (enc p.1, p.2))

section
variable {enc : κ → Value} {w : World} {b : Nat} {l : List (κ × Value)} (h : MapB enc w b l)
include h
omit [DecidableEq κ]
theorem MapB.lt : b < w.heap.size := h.elim fun _ h => h.elim fun _ h => (Array.getElem?_eq_some_iff.1 h.1).1
theorem MapB.fr {S : Nat → Prop} {w' : World} (f : Fr S w w') (hs : ¬ S b) : MapB enc w' b l := h.elim fun es k => k.elim fun clk k => ⟨es, clk, (f.block b h.lt hs).trans k.1, k.2⟩
theorem MapB.alloc (o : Obj) : MapB enc (w.alloc o) b l := h.fr ((Fr.refl (fun _ => False) _).alloc o) id
theorem MapB.drew : MapB enc w.drew b l := h
theorem MapB.ne {d : Nat} {c : Array Value} {t : TypeId} (k : Blk w d c t) : b ≠ d := by
  rintro rfl; obtain ⟨es, clk, h1, _⟩ := h; unfold Blk at k; rw [h1] at k; simp at k
end
omit [DecidableEq κ] in
theorem MapB.new (enc : κ → Value) (w : World) {b : Nat} (hb : b = w.heap.size) : MapB enc (w.alloc (.map #[] 0)) b [] := by
  subst hb
  refine ⟨#[], 0, ?_, rfl⟩
  show (w.heap.push _)[w.heap.size]? = _
  simp

theorem run_getMap {P : Program} {w : World} {r : Nat} {es : Array MapEntry} {clk : Nat} (h : w.heap[r]? = some (.map es clk)) : (getObj r).run P w = .ok (.map es clk) w := by
  simp [getObj, Sem.run, h]
theorem run_setMap {P : Program} {w : World} {r : Nat} {es : Array MapEntry} {clk : Nat} (h : w.heap[r]? = some (.map es clk)) (o : Obj) : (setObj r o).run P w = .ok () { w with heap := w.heap.setIfInBounds r o } := by
  simp [setObj, Sem.run, h]

section
variable {P : Program} {t kt et : TypeId} {enc : κ → Value} (K : KeyTy P kt enc) (ht : P.underlying t = some (.map kt et)) {w : World} {b : Nat} {l : List (κ × Value)} (h : MapB enc w b l)
include K ht h

theorem MapB.lookup (k : κ) (z : Value) (hz : ∀ w, (zeroValue et).run P w = .ok z w) (ok : Bool) :
    (Instr.lookup t (.map (some b)) (enc k) ok).run P w = .ok (if ok then .tuple #[(getA l k).getD z, .bool (getA l k).isSome] else (getA l k).getD z) w := by
  obtain ⟨es, clk, hb, hes⟩ := h
  have hf := K.find k es.toList l hes w
  simp only [Instr.lookup, Sem.run_bind, run_underlying ht, run_getMap hb, Result.andThen_ok, K.chk, hf, Sem.run_pure]
  cases hq : findAt l k 0 with
  | none => cases ok <;> simp [getA, hq, hz]
  | some x => cases ok <;> simp [getA, hq]

omit K ht h in
theorem findAt_some {l : List (κ × Value)} {k : κ} {i : Nat} {v : Value} (hf : findAt l k 0 = some (i, v)) : l[i]? = some (k, v) ∧ (∀ u, insA l k u = l.set i (k, u)) ∧ delA l k = l.eraseIdx i := by
  induction l generalizing i with
  | nil => simp [findAt] at hf
  | cons p l ih =>
    simp only [findAt] at hf
    split at hf
    · rename_i e
      subst e
      simp at hf
      obtain ⟨rfl, rfl⟩ := hf
      simp [insA, delA]
    · rename_i e
      rw [findAt_shift] at hf
      cases hq : findAt l k 0 with
      | none => rw [hq] at hf; simp at hf
      | some x =>
        obtain ⟨j, u⟩ := x
        rw [hq] at hf
        simp at hf
        obtain ⟨rfl, rfl⟩ := hf
        obtain ⟨h1, h2, h3⟩ := ih hq
        exact ⟨by simpa using h1, fun u => by simp [insA, e, h2], by simp [delA, e, h3]⟩
omit K ht h in
theorem findAt_none {l : List (κ × Value)} {k : κ} (hf : findAt l k 0 = none) : (∀ u, insA l k u = l ++ [(k, u)]) ∧ delA l k = l := by
  induction l with
  | nil => simp [insA, delA]
  | cons p l ih =>
    simp only [findAt] at hf
    split at hf
    · simp at hf
    · rename_i e
      rw [findAt_shift] at hf
      cases hq : findAt l k 0 with
      | some x => rw [hq] at hf; simp at hf
      | none =>
        obtain ⟨h2, h3⟩ := ih hq
        exact ⟨fun u => by simp [insA, e, h2], by simp [delA, e, h3]⟩
omit K ht [DecidableEq κ] h in
theorem setMap_fr (w : World) (b : Nat) (o : Obj) : Fr (fun k => k = b) w { w with heap := w.heap.setIfInBounds b o } :=
  ⟨rfl, rfl, rfl, by simp, fun k _ hs => by simp only [Array.getElem?_setIfInBounds]; rw [if_neg (fun e => hs e.symm)]⟩
omit K ht [DecidableEq κ] h in
theorem setMap_at {w : World} {b : Nat} (hb : b < w.heap.size) (es : Array MapEntry) (clk : Nat) (l : List (κ × Value)) (hes : es.toList.map (fun e => (e.key, e.val)) = l.map (fun p => (enc p.1, p.2))) :
    MapB enc { w with heap := w.heap.setIfInBounds b (.map es clk) } b l := ⟨es, clk, by simp [hb], hes⟩

theorem MapB.update (k : κ) (v : Value) : ∃ w', (Instr.mapUpdate t (.map (some b)) (enc k) v).run P w = .ok () w' ∧ MapB enc w' b (insA l k v) ∧ Fr (fun x => x = b) w w' := by
  have hlt := h.lt
  obtain ⟨es, clk, hb, hes⟩ := h
  have hf := K.find k es.toList l hes w
  cases hq : findAt l k 0 with
  | none =>
    refine ⟨_, ?_, setMap_at hlt (es.push { key := enc k, val := v, born := clk }) (clk + 1) _ ?_, setMap_fr _ _ _⟩
    · simp only [Instr.mapUpdate, Sem.run_bind, run_underlying ht, run_getMap hb, Result.andThen_ok, K.chk, hf, hq, run_setMap hb]
    · rw [(findAt_none hq).1]; simp [hes]
  | some x =>
    obtain ⟨i, u⟩ := x
    obtain ⟨h1, h2, _⟩ := findAt_some hq
    have hk : es[i]?.map (fun e => (e.key, e.val)) = some (enc k, u) := by
      have := congrArg (fun l => l[i]?) hes
      simpa [h1] using this
    obtain ⟨e0, he0, hee⟩ := Option.map_eq_some_iff.1 hk
    simp only [Prod.mk.injEq] at hee
    refine ⟨_, ?_, setMap_at hlt (es.modify i fun e => { e with key := enc k, val := v }) clk _ ?_, setMap_fr _ _ _⟩
    · simp only [Instr.mapUpdate, Sem.run_bind, run_underlying ht, run_getMap hb, Result.andThen_ok, K.chk, hf, hq, he0, Option.map_some, Option.getD_some, hee.1, Instr.keyThatStays, K.same, if_true, Sem.run_pure, run_setMap hb]
    · rw [h2]
      apply List.ext_getElem?
      intro j
      have hj := congrArg (fun l => l[j]?) hes
      simp only [List.getElem?_map, Array.getElem?_toList] at hj
      simp only [List.getElem?_map, Array.getElem?_toList, Array.getElem?_modify, List.getElem?_set]
      by_cases e : i = j
      · subst e
        have hil : i < l.length := (List.getElem?_eq_some_iff.1 h1).1
        simp [he0, hil]
      · simp only [e, if_false]; exact hj

theorem MapB.delete (ty ta : TypeId) (k : κ) : ∃ w', (Builtin.delete_ #[t, ta] ty #[.map (some b), enc k]).run P w = .ok (.tuple #[]) w' ∧ MapB enc w' b (delA l k) ∧ Fr (fun x => x = b) w w' := by
  have hlt := h.lt
  obtain ⟨es, clk, hb, hes⟩ := h
  have hf := K.find k es.toList l hes w
  cases hq : findAt l k 0 with
  | none =>
    refine ⟨_, ?_, setMap_at hlt es clk _ ?_, setMap_fr _ _ _⟩
    · simp [Builtin.delete_, run_underlying ht, run_getMap hb, K.chk, hf, hq, run_setMap hb]
    · rw [(findAt_none hq).2]; exact hes
  | some x =>
    obtain ⟨i, u⟩ := x
    obtain ⟨h1, _, h3⟩ := findAt_some hq
    have hil : i < es.size := by
      have := congrArg List.length hes
      simp at this
      have := (List.getElem?_eq_some_iff.1 h1).1
      omega
    refine ⟨_, ?_, setMap_at hlt (es.eraseIdxIfInBounds i) clk _ ?_, setMap_fr _ _ _⟩
    · simp [Builtin.delete_, run_underlying ht, run_getMap hb, K.chk, hf, hq, run_setMap hb]
    · rw [h3, Array.eraseIdxIfInBounds, dif_pos hil, Array.toList_eraseIdx]
      rw [map_erase, hes, map_erase]
end

theorem wpList_update_b {P : Program} {w : World} {ops : Array Oper} {rest : List Oper} {o : Oper} {a : Act} {Q : Exit → Act → World → Prop} (hgd : o.guard = none) (m x y : Operand) (t : TypeId) (ho : o.op = .mapUpdate t m x y)
    {kt et : TypeId} {enc : κ → Value} (K : KeyTy P kt enc) (ht : P.underlying t = some (.map kt et)) {b : Nat} {l : List (κ × Value)} (hm : a.eval m = .map (some b)) (h : MapB enc w b l) (k : κ) (v : Value) (hx : a.eval x = enc k) (hy : a.eval y = v)
    (hK : ∀ w', MapB enc w' b (insA l k v) → Fr (fun x => x = b) w w' → wpList P ops Q rest (a.put o.dst undef) w') : wpList P ops Q (o :: rest) a w := by
  refine wpList_plain hgd fun K' hK' => ?_
  obtain ⟨w', hr, h2, h3⟩ := h.update K ht k v
  unfold Oper.wp
  simp [execOp, ho, hm, hx, hy, hr, Result.andThen]
  exact hK' _ _ (hK w' h2 h3)

theorem wpList_delete_b {P : Program} {w : World} {ops : Array Oper} {rest : List Oper} {o : Oper} {a : Act} {Q : Exit → Act → World → Prop} (hgd : o.guard = none) (m x : Operand) (t ta : TypeId)
    (ho : o.op = .call { callee := .builtin .delete, args := #[m, x], argTypes := #[t, ta] })
    {kt et : TypeId} {enc : κ → Value} (K : KeyTy P kt enc) (ht : P.underlying t = some (.map kt et)) {b : Nat} {l : List (κ × Value)} (hm : a.eval m = .map (some b)) (h : MapB enc w b l) (k : κ) (hx : a.eval x = enc k)
    (hK : ∀ w', MapB enc w' b (delA l k) → Fr (fun x => x = b) w w' → wpList P ops Q rest (a.put o.dst (.tuple #[])) w') : wpList P ops Q (o :: rest) a w := by
  refine wpList_plain hgd fun K' hK' => ?_
  obtain ⟨w', hr, h2, h3⟩ := h.delete K ht o.type ta k
  have hk := hK' _ _ (hK w' h2 h3)
  have hrun : (execOp a.eval o).run P w = .ok (.value (.tuple #[])) w' := by
    simp only [execOp, ho, resolve, invoke, builtin, Sem.run_bind, Sem.run_pure, Result.andThen_ok, List.map_toArray, List.map_cons, List.map_nil, hm, hx, hr]
  unfold Oper.wp
  rw [hrun]
  exact hk

/-- numbers as keys -/
theorem key_int {P : Program} {kt : TypeId} (hk : P.underlying kt = some (.int .i64)) : KeyTy P kt (fun k : Int => Value.int .i64 k) where
  chk := by
    intro b k w
    rw [show (10000 : Nat) = 9999 + 1 from rfl, Instr.checkKey]
    simp [run_underlying hk]
  find := by
    intro k es l hes w
    have key : ∀ (es : List MapEntry) (l : List (Int × Value)) (i : Nat), es.map (fun e => (e.key, e.val)) = l.map (fun p => (Value.int .i64 p.1, p.2)) → Instr.findNow (.int .i64) (.int .i64 k) es i = some (findAt l k i) := by
      intro es
      induction es with
      | nil =>
        intro l i hl
        cases l with
        | nil => rfl
        | cons p l => simp at hl
      | cons e es ih =>
        intro l i hl
        cases l with
        | nil => simp at hl
        | cons p l =>
          simp at hl
          obtain ⟨⟨h1, h2⟩, h3⟩ := hl
          simp only [Instr.findNow, h1, Instr.sameNow, if_true, findAt, h2]
          by_cases e : k = p.1
          · simp [e]
          · have : (k == p.1) = false := by simpa using e
            rw [if_neg e, this]
            exact ih l (i + 1) (by simpa using h3)
    simp [Instr.findKey, run_underlying hk, key es l 0 hes]
  same := by intro k; simp [Instr.sameBits]
end Go.Proofs.Ytoifefcbegdjdaa
