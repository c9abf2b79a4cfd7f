import Derived.Test.YtoifefcbegdjdaaMapB
import Derived.Maps.RangeWalk
namespace Go.Proofs.Ytoifefcbegdjdaa
open Go.RowKit

/-! a map that may be ranged over: its stamps are each once, and below its clock -/
section
variable {κ : Type} [DecidableEq κ]

abbrev kvE (e : MapEntry) : Value × Value := (e.key, e.val)
abbrev kvL (enc : κ → Value) (p : κ × Value) : Value × Value := (enc p.1, p.2)

def MapS (enc : κ → Value) (w : World) (b : Nat) (l : List (κ × Value)) : Prop :=
  ∃ es clk, w.heap[b]? = some (.map es clk) ∧ es.toList.map kvE = l.map (kvL enc) ∧ (∀ e ∈ es.toList, e.born < clk) ∧ (es.toList.map (·.born)).Nodup

/-- an iterator over it: what is still to come -/
def Rng (enc : κ → Value) (w : World) (r b : Nat) (l rem : List (κ × Value)) : Prop :=
  ∃ es clk since seen c0, w.heap[b]? = some (.map es clk) ∧ es.toList.map kvE = l.map (kvL enc) ∧ (∀ e ∈ es.toList, e.born < since) ∧ (es.toList.map (·.born)).Nodup ∧ since ≤ clk ∧ since ≤ c0 ∧
    w.heap[r]? = some (.mapIter (some b) since seen c0) ∧ (leftOf es seen).toList.map kvE = rem.map (kvL enc)

section
variable {enc : κ → Value} {w : World} {b : Nat} {l : List (κ × Value)} (h : MapS enc w b l)
include h
omit [DecidableEq κ]
theorem MapS.toB : MapB enc w b l := h.elim fun es h => h.elim fun clk h => ⟨es, clk, h.1, h.2.1⟩
theorem MapS.lt : b < w.heap.size := h.toB.lt
theorem MapS.fr {S : Nat → Prop} {w' : World} (f : Fr S w w') (hs : ¬ S b) : MapS enc w' b l := h.elim fun es k => k.elim fun clk k => ⟨es, clk, (f.block b h.lt hs).trans k.1, k.2⟩
end
omit [DecidableEq κ] in
theorem MapS.new (enc : κ → Value) (w : World) {b : Nat} (hb : b = w.heap.size) : MapS enc (w.alloc (.map #[] 0)) b [] := by
  subst hb
  refine ⟨#[], 0, ?_, rfl, by simp, by simp⟩
  show (w.heap.push _)[w.heap.size]? = _
  simp

theorem nodup_sub {l m : List Nat} (h : m.Nodup) (s : l.Sublist m) : l.Nodup := List.Nodup.sublist s h

section
variable {P : Program} {t kt et : TypeId} {enc : κ → Value} (K : KeyTy P kt enc) (ht : P.underlying t = some (.map kt et)) {w : World} {b : Nat} {l : List (κ × Value)} (h : MapS enc w b l)
include K ht h

theorem MapS.update (k : κ) (v : Value) : ∃ w', (Instr.mapUpdate t (.map (some b)) (enc k) v).run P w = .ok () w' ∧ MapS enc w' b (insA l k v) ∧ Fr (fun x => x = b) w w' := by
  have hlt := h.lt
  obtain ⟨es, clk, hb, hes, hbn, hnd⟩ := h
  have hf := K.find k es.toList l hes w
  cases hq : findAt l k 0 with
  | none =>
    refine ⟨_, ?_, ⟨es.push { key := enc k, val := v, born := clk }, clk + 1, by simp [hlt]; rfl, ?_, ?_, ?_⟩, setMap_fr _ _ _⟩
    · simp only [Instr.mapUpdate, Sem.run_bind, run_underlying ht, run_getMap hb, Result.andThen_ok, K.chk, hf, hq, run_setMap hb]
    · rw [(findAt_none hq).1]; simp [hes]
    · intro e he
      simp at he
      rcases he with he | rfl
      · have := hbn e (by simpa using he); omega
      · simp
    · simp only [Array.toList_push, List.map_append, List.map_cons, List.map_nil]
      rw [List.nodup_append]
      refine ⟨hnd, by simp, fun a ha c hc => ?_⟩
      simp at hc
      subst hc
      obtain ⟨e, he, rfl⟩ := List.mem_map.1 ha
      have := hbn e he
      omega
  | some x =>
    obtain ⟨i, u⟩ := x
    obtain ⟨h1, h2, _⟩ := findAt_some hq
    have hk : es[i]?.map (fun e => (e.key, e.val)) = some (enc k, u) := by
      have := congrArg (fun l => l[i]?) hes
      simpa [h1] using this
    obtain ⟨e0, he0, hee⟩ := Option.map_eq_some_iff.1 hk
    simp only [Prod.mk.injEq] at hee
    have hborn : (es.modify i fun e => { e with key := enc k, val := v }).toList.map (·.born) = es.toList.map (·.born) := by
      apply List.ext_getElem?
      intro j
      simp only [List.getElem?_map, Array.getElem?_toList, Array.getElem?_modify]
      split
      · rename_i e; subst e; cases es[i]? <;> rfl
      · rfl
    refine ⟨_, ?_, ⟨es.modify i fun e => { e with key := enc k, val := v }, clk, by simp [hlt]; rfl, ?_, ?_, ?_⟩, setMap_fr _ _ _⟩
    · simp only [Instr.mapUpdate, Sem.run_bind, run_underlying ht, run_getMap hb, Result.andThen_ok, K.chk, hf, hq, he0, Option.map_some, Option.getD_some, hee.1, Instr.keyThatStays, K.same, if_true, Sem.run_pure, run_setMap hb]
    · rw [h2]
      apply List.ext_getElem?
      intro j
      have hj := congrArg (fun l => l[j]?) hes
      simp only [List.getElem?_map, Array.getElem?_toList] at hj
      simp only [List.getElem?_map, Array.getElem?_toList, Array.getElem?_modify, List.getElem?_set]
      by_cases e : i = j
      · subst e
        have hil : i < l.length := (List.getElem?_eq_some_iff.1 h1).1
        simp [he0, hil]
      · simp only [e, if_false]; exact hj
    · intro e he
      have : e.born ∈ (es.modify i fun e => { e with key := enc k, val := v }).toList.map (·.born) := List.mem_map.2 ⟨e, he, rfl⟩
      rw [hborn] at this
      obtain ⟨e', he', hb'⟩ := List.mem_map.1 this
      have := hbn e' he'
      omega
    · rw [hborn]; exact hnd

theorem MapS.delete (ty ta : TypeId) (k : κ) : ∃ w', (Builtin.delete_ #[t, ta] ty #[.map (some b), enc k]).run P w = .ok (.tuple #[]) w' ∧ MapS enc w' b (delA l k) ∧ Fr (fun x => x = b) w w' := by
  have hlt := h.lt
  obtain ⟨es, clk, hb, hes, hbn, hnd⟩ := h
  have hf := K.find k es.toList l hes w
  cases hq : findAt l k 0 with
  | none =>
    refine ⟨_, ?_, ⟨es, clk, by simp [hlt]; rfl, ?_, hbn, hnd⟩, setMap_fr _ _ _⟩
    · simp [Builtin.delete_, run_underlying ht, run_getMap hb, K.chk, hf, hq, run_setMap hb]
    · rw [(findAt_none hq).2]; exact hes
  | some x =>
    obtain ⟨i, u⟩ := x
    obtain ⟨h1, _, h3⟩ := findAt_some hq
    have hil : i < es.size := by
      have := congrArg List.length hes
      simp at this
      have := (List.getElem?_eq_some_iff.1 h1).1
      omega
    have e1 : (es.eraseIdxIfInBounds i).toList = es.toList.eraseIdx i := by rw [Array.eraseIdxIfInBounds, dif_pos hil, Array.toList_eraseIdx]
    refine ⟨_, ?_, ⟨es.eraseIdxIfInBounds i, clk, by simp [hlt]; rfl, ?_, ?_, ?_⟩, setMap_fr _ _ _⟩
    · simp [Builtin.delete_, run_underlying ht, run_getMap hb, K.chk, hf, hq, run_setMap hb]
    · rw [h3, e1, map_erase, hes, map_erase]
    · intro e he
      rw [e1] at he
      exact hbn e (List.mem_of_mem_eraseIdx he)
    · rw [e1, map_erase]
      exact hnd.sublist (List.eraseIdx_sublist _ _)

omit K [DecidableEq κ] in
theorem MapS.len (ty : TypeId) : (Builtin.len_ #[t] ty #[.map (some b)]).run P w = .ok (.int .i64 l.length) w := by
  obtain ⟨es, clk, hb, hes, _, _⟩ := h
  have e : es.size = l.length := by
    have := congrArg List.length hes
    simpa using this
  simp [Builtin.len_, run_underlying ht, run_getMap hb, e, goInt]
omit K [DecidableEq κ] in
theorem MapS.range : ∃ w', (Instr.range t (.map (some b))).run P w = .ok (.pointer (some ⟨w.heap.size, 0, none⟩)) w' ∧ Rng enc w' w.heap.size b l l ∧ Fr (fun _ => False) w w' ∧ w'.heap.size = w.heap.size + 1 := by
  have hlt := h.lt
  obtain ⟨es, clk, hb, hes, hbn, hnd⟩ := h
  refine ⟨_, run_range_map w t kt et b es clk ht hb, ⟨es, clk, clk, #[], clk, (heap_alloc_old w _ hlt).trans hb, hes, hbn, hnd, Nat.le_refl _, Nat.le_refl _, heap_alloc_new w _, ?_⟩, (Fr.refl _ _).alloc _, by simp⟩
  rw [← hes]
  congr 1
  unfold leftOf
  simp
end

/-- how many are still to come, for a measure -/
def remN (w : World) (r b : Nat) : Nat := match w.heap[b]?, w.heap[r]? with
  | some (.map es _), some (.mapIter _ _ seen _) => (leftOf es seen).size
  | _, _ => 0

section
variable {P : Program} {enc : κ → Value} {w : World} {r b : Nat} {l rem : List (κ × Value)} (h : Rng enc w r b l rem)
include h
omit [DecidableEq κ]
theorem Rng.lt : r < w.heap.size := by obtain ⟨es, clk, since, seen, c0, _, _, _, _, _, _, hr, _⟩ := h; exact (Array.getElem?_eq_some_iff.1 hr).1
theorem Rng.ltb : b < w.heap.size := by obtain ⟨es, clk, since, seen, c0, hb, _⟩ := h; exact (Array.getElem?_eq_some_iff.1 hb).1
theorem Rng.fr {S : Nat → Prop} {w' : World} (f : Fr S w w') (hs : ¬ S r ∧ ¬ S b) : Rng enc w' r b l rem := by
  have h1 := h.lt
  have h2 := h.ltb
  obtain ⟨es, clk, since, seen, c0, q1, q2, q3, q4, q5, q6, q7, q8⟩ := h
  exact ⟨es, clk, since, seen, c0, (f.block b h2 hs.2).trans q1, q2, q3, q4, q5, q6, (f.block r h1 hs.1).trans q7, q8⟩
theorem Rng.remN_eq : remN w r b = rem.length := by
  obtain ⟨es, clk, since, seen, c0, q1, q2, q3, q4, q5, q6, q7, q8⟩ := h
  have := congrArg List.length q8
  simp only [List.length_map, Array.length_toList] at this
  unfold remN
  rw [q1, q7]
  exact this
theorem Rng.next (ty : TypeId) : (rem = [] ∧ (Instr.next (.pointer (some ⟨r, 0, none⟩)) false ty).run P w = .ok (.tuple #[.bool false]) w) ∨
    ∃ p rem' w', rem.Perm (p :: rem') ∧ (Instr.next (.pointer (some ⟨r, 0, none⟩)) false ty).run P w = .ok (.tuple #[.bool true, enc p.1, p.2]) w' ∧ Rng enc w' r b l rem' ∧ Fr (fun k => k = r) w w' ∧ w'.heap.size = w.heap.size ∧
      (Instr.entry (.pointer (some ⟨r, 0, none⟩))).run P w' = .ok (.tuple #[enc p.1, p.2]) w' := by
  have hlt := h.lt
  obtain ⟨es, clk, since, seen, c0, q1, q2, q3, q4, q5, q6, q7, q8⟩ := h
  have hne : b ≠ r := by rintro rfl; rw [q1] at q7; simp at q7
  rcases run_next_at (P := P) w ty r b since c0 seen es clk q7 q1 q3 q6 with ⟨h0, hrun⟩ | ⟨e, he, w1, hw1, hrun⟩
  · left
    refine ⟨?_, hrun⟩
    have := congrArg List.length q8
    simp [h0] at this
    exact List.eq_nil_of_length_eq_zero this.symm
  · right
    obtain ⟨hem, hes⟩ := mem_left he
    -- where it stands among those that are left
    have hndl : ((leftOf es seen).toList.map (·.born)).Nodup := by
      refine q4.sublist ?_
      unfold leftOf
      rw [Array.toList_filter]
      exact (List.filter_sublist).map _
    obtain ⟨s, t, hst⟩ := List.append_of_mem he
    have hlen := congrArg List.length q8
    simp only [List.length_map] at hlen
    have hsl : s.length < rem.length := by rw [← hlen, hst]; simp
    have hsplit : rem = rem.take s.length ++ rem[s.length] :: rem.drop (s.length + 1) := by
      rw [List.getElem_cons_drop, List.take_append_drop]
    have q8' := q8
    rw [hst, hsplit] at q8'
    simp only [List.map_append, List.map_cons] at q8'
    have hA := List.append_inj q8' (by simp; omega)
    obtain ⟨hA1, hA2⟩ := hA
    simp only [List.cons.injEq] at hA2
    obtain ⟨hA2, hA3⟩ := hA2
    obtain ⟨hA2k, hA2v⟩ := Prod.mk.inj hA2
    have hleft : (leftOf es (seen.push e.born)).toList = s ++ t := by
      have e1 : (leftOf es (seen.push e.born)).toList = (leftOf es seen).toList.filter (fun x => !(x.born == e.born)) := by
        unfold leftOf
        rw [Array.toList_filter, Array.toList_filter, List.filter_filter]
        apply List.filter_congr
        intro x _
        rw [Array.contains_push, Bool.not_or, Bool.and_comm]
      rw [e1, hst]
      rw [hst, List.map_append, List.map_cons] at hndl
      have hnd2 := (List.perm_middle.nodup_iff.1 hndl)
      rw [List.nodup_cons] at hnd2
      rw [List.filter_append, List.filter_cons]
      simp only [beq_self_eq_true, Bool.not_true, Bool.false_eq_true, if_false]
      rw [← List.filter_append, List.filter_eq_self]
      intro x hx
      have : x.born ≠ e.born := fun e2 => hnd2.1 (e2 ▸ (by rw [← List.map_append]; exact List.mem_map.2 ⟨x, hx, rfl⟩))
      simpa using this
    have hw1fr : Fr (fun k => k = r) w w1 := hw1.elim (fun e => e ▸ Fr.refl _ _) (fun e => e ▸ (Fr.refl _ _).drew)
    have hw1h : w1.heap = w.heap := by rcases hw1 with rfl | rfl <;> rfl
    have hb' : (ChangeMaps.setBlock w1 r (.mapIter (some b) since (seen.push e.born) clk)).heap[b]? = some (.map es clk) := by
      unfold ChangeMaps.setBlock
      simp only [Array.getElem?_setIfInBounds, hw1h]
      rw [if_neg (fun e => hne e.symm)]; exact q1
    have hr' : (ChangeMaps.setBlock w1 r (.mapIter (some b) since (seen.push e.born) clk)).heap[r]? = some (.mapIter (some b) since (seen.push e.born) clk) := by
      unfold ChangeMaps.setBlock
      simp [hw1h, hlt]
    refine ⟨rem[s.length], rem.take s.length ++ rem.drop (s.length + 1), _, ?_, ?_, ⟨es, clk, since, seen.push e.born, clk, hb', q2, q3, q4, q5, q5, hr', ?_⟩, ?_, ?_, ?_⟩
    · conv => lhs; rw [hsplit]
      exact List.perm_middle
    · rw [hrun, hA2k, hA2v]
    · rw [hleft, List.map_append, List.map_append, hA1, hA3]
    · exact hw1fr.trans (by unfold ChangeMaps.setBlock; exact setMap_fr _ _ _)
    · unfold ChangeMaps.setBlock; simp [hw1h]
    · have := run_entry_at (P := P) _ r b since seen es clk e hr' hb' hem q4
      rw [hA2k, hA2v] at this
      exact this
end
end

theorem wpList_update_s {κ : Type} [DecidableEq κ] {P : Program} {w : World} {ops : Array Oper} {rest : List Oper} {o : Oper} {a : Act} {Q : Exit → Act → World → Prop} (hgd : o.guard = none) (m x y : Operand) (t : TypeId) (ho : o.op = .mapUpdate t m x y)
    {kt et : TypeId} {enc : κ → Value} (K : KeyTy P kt enc) (ht : P.underlying t = some (.map kt et)) {b : Nat} {l : List (κ × Value)} (hm : a.eval m = .map (some b)) (h : MapS enc w b l) (k : κ) (v : Value) (hx : a.eval x = enc k) (hy : a.eval y = v)
    (hK : ∀ w', MapS enc w' b (insA l k v) → Fr (fun x => x = b) w w' → wpList P ops Q rest (a.put o.dst undef) w') : wpList P ops Q (o :: rest) a w := by
  refine wpList_plain hgd fun K' hK' => ?_
  obtain ⟨w', hr, h2, h3⟩ := h.update K ht k v
  unfold Oper.wp
  simp [execOp, ho, hm, hx, hy, hr, Result.andThen]
  exact hK' _ _ (hK w' h2 h3)

theorem wpList_delete_s {κ : Type} [DecidableEq κ] {P : Program} {w : World} {ops : Array Oper} {rest : List Oper} {o : Oper} {a : Act} {Q : Exit → Act → World → Prop} (hgd : o.guard = none) (m x : Operand) (t ta : TypeId)
    (ho : o.op = .call { callee := .builtin .delete, args := #[m, x], argTypes := #[t, ta] })
    {kt et : TypeId} {enc : κ → Value} (K : KeyTy P kt enc) (ht : P.underlying t = some (.map kt et)) {b : Nat} {l : List (κ × Value)} (hm : a.eval m = .map (some b)) (h : MapS enc w b l) (k : κ) (hx : a.eval x = enc k)
    (hK : ∀ w', MapS enc w' b (delA l k) → Fr (fun x => x = b) w w' → wpList P ops Q rest (a.put o.dst (.tuple #[])) w') : wpList P ops Q (o :: rest) a w := by
  refine wpList_plain hgd fun K' hK' => ?_
  obtain ⟨w', hr, h2, h3⟩ := h.delete K ht o.type ta k
  have hk := hK' _ _ (hK w' h2 h3)
  have hrun : (execOp a.eval o).run P w = .ok (.value (.tuple #[])) w' := by
    simp only [execOp, ho, resolve, invoke, builtin, Sem.run_bind, Sem.run_pure, Result.andThen_ok, List.map_toArray, List.map_cons, List.map_nil, hm, hx, hr]
  unfold Oper.wp
  rw [hrun]
  exact hk

theorem wpList_range_s {κ : Type} {P : Program} {w : World} {ops : Array Oper} {rest : List Oper} {o : Oper} {a : Act} {Q : Exit → Act → World → Prop} (hg : o.guard = none) (m : Operand) (t : TypeId) (hop : o.op = Op.range t m)
    {kt et : TypeId} {enc : κ → Value} (ht : P.underlying t = some (.map kt et)) {b : Nat} {l : List (κ × Value)} (hm : a.eval m = .map (some b)) (h : MapS enc w b l)
    (hK : ∀ w', Rng enc w' w.heap.size b l l → Fr (fun _ => False) w w' → w'.heap.size = w.heap.size + 1 → wpList P ops Q rest (a.put o.dst (.pointer (some ⟨w.heap.size, 0, none⟩))) w') :
    wpList P ops Q (o :: rest) a w := by
  refine wpList_plain hg fun K' hK' => ?_
  obtain ⟨w', hrun, r1, r2, r3⟩ := h.range ht
  unfold Oper.wp
  simp [execOp, hop, hm, hrun, Result.andThen]
  exact hK' _ _ (hK w' r1 r2 r3)

theorem wpList_next_s {κ : Type} {P : Program} {w : World} {ops : Array Oper} {rest : List Oper} {o : Oper} {a : Act} {Q : Exit → Act → World → Prop} (hg : o.guard = none) (it : Operand) (hop : o.op = Op.next it false)
    {enc : κ → Value} {r b : Nat} {l rem : List (κ × Value)} (hit : a.eval it = .pointer (some ⟨r, 0, none⟩)) (h : Rng enc w r b l rem)
    (hDone : rem = [] → wpList P ops Q rest (a.put o.dst (.tuple #[.bool false])) w)
    (hMore : ∀ k v rem' w', rem.Perm ((k, v) :: rem') → Rng enc w' r b l rem' → Fr (fun k => k = r) w w' → w'.heap.size = w.heap.size → (Instr.entry (.pointer (some ⟨r, 0, none⟩))).run P w' = .ok (.tuple #[enc k, v]) w' → wpList P ops Q rest (a.put o.dst (.tuple #[.bool true, enc k, v])) w') :
    wpList P ops Q (o :: rest) a w := by
  refine wpList_plain hg fun K' hK' => ?_
  unfold Oper.wp
  rcases h.next (P := P) o.type with ⟨h0, hrun⟩ | ⟨p, rem', w', hp, hrun, hr, hf, hs, hen⟩
  · simp [execOp, hop, hit, hrun, Result.andThen]
    exact hK' _ _ (hDone h0)
  · simp [execOp, hop, hit, hrun, Result.andThen]
    exact hK' _ _ (hMore p.1 p.2 rem' w' hp hr hf hs hen)
end Go.Proofs.Ytoifefcbegdjdaa
