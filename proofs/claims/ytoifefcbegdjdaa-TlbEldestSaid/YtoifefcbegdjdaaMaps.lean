import Derived.Test.YtoifefcbegdjdaaSli2
import Derived.Test.YtoifefcbegdjdaaRec
namespace Go.Proofs.Ytoifefcbegdjdaa
open Go.RowKit

/-- an entry: a process, its place, a page -/
structure Ent where
  p : Int
  at_ : Int
  page : Int
deriving DecidableEq

def Ent.cell (x : Ent) : Nat → Value
  | 0 => .int .i64 x.p
  | 1 => .int .i64 x.at_
  | _ => .int .i64 x.page
def Ent.v (x : Ent) : Value := .agg #[.int .i64 x.p, .int .i64 x.at_, .int .i64 x.page]
def ents (l : List Ent) : List Value := l.flatMap fun x => [.int .i64 x.p, .int .i64 x.at_, .int .i64 x.page]
theorem ents_len (l : List Ent) : (ents l).length = l.length * 3 := by
  induction l with
  | nil => rfl
  | cons x l ih => simp only [ents, List.flatMap_cons, List.length_append, List.length_cons, List.length_nil] at *; omega
theorem ents_get : ∀ (l : List Ent) (j i : Nat) (hj : j < l.length), i < 3 → (ents l)[j * 3 + i]? = some (l[j].cell i)
  | x :: l, 0, i, _, hi => by
    match i, hi with
    | 0, _ => rfl
    | 1, _ => rfl
    | 2, _ => rfl
  | x :: l, j + 1, i, hj, hi => by
    have := ents_get l j i (by simpa using hj) hi
    have e : (j + 1) * 3 + i = (j * 3 + i) + 3 := by omega
    rw [e]
    exact this
theorem ents_one (l : List Ent) : ∀ u ∈ ents l, u.oneCell' = true := by
  intro u hu
  simp only [ents, List.mem_flatMap] at hu
  obtain ⟨a, _, hu⟩ := hu
  simp at hu
  rcases hu with rfl | rfl | rfl <;> rfl

/-- entries in a slice -/
def Seg (w : World) (v : Value) (l : List Ent) : Prop :=
  (v = .slice none 0 0 ∧ l = []) ∨ ∃ b o cap f, v = .slice (some ⟨b, o * 3, none⟩) l.length cap ∧ l.length ≤ cap ∧ o + cap ≤ maxLen ∧ Rec w b (o + cap) 3 f 56 ∧ ∀ j, (h : j < l.length) → ∀ i, i < 3 → f (o + j) i = l[j].cell i

theorem Seg.fr {S : Nat → Prop} {w w' : World} {v : Value} {l : List Ent} (h : Seg w v l) (f : Fr S w w') (hs : ∀ k, At v k → ¬ S k) : Seg w' v l := by
  rcases h with h | ⟨b, o, cap, g, rfl, h1, h2, h3, h4⟩
  · exact .inl h
  · exact .inr ⟨b, o, cap, g, rfl, h1, h2, h3.fr f (hs b ⟨_, _, _, rfl⟩), h4⟩
theorem Seg.form {w : World} {v : Value} {l : List Ent} (h : Seg w v l) : ∃ a cap, v = .slice a l.length cap ∧ l.length ≤ cap ∧ cap ≤ maxLen := by
  rcases h with ⟨rfl, rfl⟩ | ⟨b, o, cap, g, rfl, h1, h2, _⟩
  · exact ⟨none, 0, rfl, Nat.le_refl _, Nat.zero_le _⟩
  · exact ⟨_, cap, rfl, h1, by omega⟩
theorem Seg.lt {w : World} {v : Value} {l : List Ent} (h : Seg w v l) {k : Nat} (hk : At v k) : k < w.heap.size := by
  obtain ⟨off, n, cap, rfl⟩ := hk
  rcases h with ⟨h, _⟩ | ⟨b, o, cap, g, h, _, _, h3, _⟩
  · simp at h
  · simp only [Value.slice.injEq, Option.some.injEq, Addr.mk.injEq] at h
    obtain ⟨⟨rfl, _⟩, _⟩ := h
    exact h3.lt
theorem Seg.cells {w : World} {v : Value} {l : List Ent} (h : Seg w v l) (hp : l ≠ []) : ∃ b o cap, v = .slice (some ⟨b, o * 3, none⟩) l.length cap ∧ b < w.heap.size ∧
    ∀ j, (h : j < l.length) → w.cell? ⟨b, o * 3 + j * 3, none⟩ = some (.int .i64 l[j].p) ∧ w.cell? ⟨b, o * 3 + j * 3 + 1, none⟩ = some (.int .i64 l[j].at_) ∧ w.cell? ⟨b, o * 3 + j * 3 + 2, none⟩ = some (.int .i64 l[j].page) := by
  rcases h with ⟨_, h⟩ | ⟨b, o, cap, g, rfl, h1, h2, h3, h4⟩
  · exact absurd h hp
  · refine ⟨b, o, cap, rfl, h3.lt, fun j hj => ?_⟩
    have e : o * 3 + j * 3 = (o + j) * 3 := by omega
    rw [e]
    refine ⟨?_, ?_, ?_⟩
    · have := h3.cell (i := o + j) (j := 0) (by omega) (by omega); rw [h4 j hj 0 (by omega)] at this; exact this
    · have := h3.cell (i := o + j) (j := 1) (by omega) (by omega); rw [h4 j hj 1 (by omega)] at this; exact this
    · have := h3.cell (i := o + j) (j := 2) (by omega) (by omega); rw [h4 j hj 2 (by omega)] at this; exact this
theorem Seg.of_own {w : World} {n : Nat} {v : Value} {l : List Ent} (h : Own w 56 3 n v (ents l)) : Seg w v l := by
  have hl := h.length
  rw [ents_len] at hl
  have hn : n = l.length := by omega
  subst hn
  rcases h.2 with ⟨rfl, h0⟩ | ⟨g, cap, cur, rfl, _, h2, h3, h4, h5, h6⟩
  · left; exact ⟨by simp_all, List.eq_nil_of_length_eq_zero (by omega)⟩
  · refine .inr ⟨g, 0, cap, fun i j => cur[i * 3 + j]!, by simp, h3, by omega, ⟨cur, h2, by omega, fun i j hi hj => ?_⟩, fun j hj i hi => ?_⟩
    · rw [Array.getElem?_eq_getElem (show i * 3 + j < cur.size by omega)]
      exact congrArg some (getElem!_pos cur (i * 3 + j) (by omega)).symm
    · have := ents_get l j i hj hi
      rw [← h6, List.getElem?_take, if_pos (by omega), Array.getElem?_toList] at this
      simp only [Nat.zero_add]
      obtain ⟨h1, h2⟩ := Array.getElem?_eq_some_iff.1 this
      rw [getElem!_pos cur _ h1, h2]

theorem ent_eta (x : Ent) : x = ⟨x.p, x.at_, x.page⟩ := rfl

section
variable (g : FuncId) (cap : Array Value) (p : Ent → Bool) (v : Value) (l : List Ent) (w : World)
  (hg : ∀ args w, (callFunc g args).run Try.prog w = .ok (.enter g args) w)
  (hp : ∀ W x, Fr (fun _ => False) w W → Calls Try.prog g (#[Ent.v x] ++ cap) W fun e w' => e = .returned (.bool (p x)) ∧ Fr (fun _ => False) W w')
  (h : Seg w v l) (hl : l.length ≤ 1000000)
include hg hp h hl
set_option maxRecDepth 100000 in
theorem maps_index_yes (q : Nat) (x : Ent) (hq : l[q]? = some x) (hx : p x = true) (hm : ∀ j, (h : j < q) → ∀ y, l[j]? = some y → p y = false) :
    Calls Try.prog 74 #[v, .func (.func g) #[] cap] w fun e w' => e = .returned (.int .i64 q) ∧ Fr (fun _ => False) w w' := by
  have hql : q < l.length := (List.getElem?_eq_some_iff.1 hq).1
  obtain ⟨b, o, c, rfl, hb, hc⟩ := h.cells (by intro e; subst e; simp at hql)
  have hlen : (l.length : Int) ≤ 1000000 := by omega
  have HC := Lib.hid hc
  have HM := Lib.hid hm
  have HQ := Lib.hid hq
  have HX := Lib.hid hx
  have HP := Lib.hid hp
  clear h hc hm hq hp hx
  go_enter Try.func74, Try.ntmps74
  go_wp2_with fail
  go_loopw [5, 8] (fun _ t8 wr => ∃ i : Nat, i ≤ q ∧ t8 = .int .i64 i ∧ Fr (fun _ => False) w wr) (fun _ t8 _ => (l.length - intOf t8).toNat)
  case atStart => exact ⟨0, by omega, rfl, Fr.refl _ _⟩
  case round =>
    obtain ⟨i, hi, rfl, hF⟩ := hrel
    have HF := Lib.hid hF
    have hil : (i : Int) < l.length := by omega
    obtain ⟨c0, c1, c2⟩ := HC.out i (by omega)
    have tr : ∀ {j u}, w.cell? ⟨b, j, none⟩ = some u → wr.cell? ⟨b, j, none⟩ = some u := fun {j u} e => (World.cell?_of_block (hF.block b hb id)).trans e
    have c0' := tr c0
    have c1' := tr c1
    have c2' := tr c2
    have hcall := HP.out wr l[i] hF
    unfold Ent.v at hcall
    clear hF tr c0 c1 c2
    by_cases hiq : i = q
    · subst hiq
      have hpx : p l[i] = true := by
        have h1 := HQ.out
        rw [List.getElem?_eq_getElem (by omega)] at h1
        have h2 := HX.out
        rw [← Option.some.inj h1] at h2
        exact h2
      rw [hpx] at hcall
      have HCA := Lib.hid hcall
      clear hpx hcall
      go_wp2_with (refine HCA.out.mono ?_; rintro e w' ⟨rfl, hF2⟩; have HF2 := Lib.hid hF2; clear hF2)
      go_ret
      exact ⟨rfl, HF.out.trans HF2.out⟩
    · have hpx : p l[i] = false := HM.out i (by omega) _ (List.getElem?_eq_getElem (by omega))
      rw [hpx] at hcall
      have HCA := Lib.hid hcall
      clear hpx hcall
      go_wp2_with (refine HCA.out.mono ?_; rintro e w' ⟨rfl, hF2⟩; have HF2 := Lib.hid hF2; clear hF2)
      refine ⟨⟨i + 1, by omega, by go_num, HF.out.trans HF2.out⟩, by simp [intOf]; omega⟩

set_option maxRecDepth 100000 in
theorem maps_index_no (hm : ∀ y ∈ l, p y = false) :
    Calls Try.prog 74 #[v, .func (.func g) #[] cap] w fun e w' => e = .returned (.int .i64 (-1)) ∧ Fr (fun _ => False) w w' := by
  obtain ⟨a, c, rfl, _, _⟩ := h.form
  have hlen : (l.length : Int) ≤ 1000000 := by omega
  have hc : l ≠ [] → ∃ b o, a = some ⟨b, o * 3, none⟩ ∧ b < w.heap.size ∧ ∀ j, (h : j < l.length) → w.cell? ⟨b, o * 3 + j * 3, none⟩ = some (.int .i64 l[j].p) ∧ w.cell? ⟨b, o * 3 + j * 3 + 1, none⟩ = some (.int .i64 l[j].at_) ∧ w.cell? ⟨b, o * 3 + j * 3 + 2, none⟩ = some (.int .i64 l[j].page) := fun hne => by
    obtain ⟨b, o, c, e, hb, hc⟩ := h.cells hne
    simp only [Value.slice.injEq] at e
    exact ⟨b, o, e.1, hb, hc⟩
  have HC := Lib.hid hc
  have HM := Lib.hid hm
  have HP := Lib.hid hp
  clear h hc hm hp
  go_enter Try.func74, Try.ntmps74
  go_wp2_with fail
  go_loopw [5, 8] (fun _ t8 wr => ∃ i : Nat, i ≤ l.length ∧ t8 = .int .i64 i ∧ Fr (fun _ => False) w wr) (fun _ t8 _ => (l.length - intOf t8).toNat)
  case atStart => exact ⟨0, by omega, rfl, Fr.refl _ _⟩
  case round =>
    obtain ⟨i, hi, rfl, hF⟩ := hrel
    have HF := Lib.hid hF
    by_cases hil : i < l.length
    · have hil' : (i : Int) < l.length := by omega
      obtain ⟨b, o, rfl, hb, hc⟩ := HC.out (by intro e; rw [e] at hil; simp at hil)
      obtain ⟨c0, c1, c2⟩ := hc i hil
      have tr : ∀ {j u}, w.cell? ⟨b, j, none⟩ = some u → wr.cell? ⟨b, j, none⟩ = some u := fun {j u} e => (World.cell?_of_block (hF.block b hb id)).trans e
      have c0' := tr c0
      have c1' := tr c1
      have c2' := tr c2
      have hcall := HP.out wr l[i] hF
      unfold Ent.v at hcall
      clear hF tr c0 c1 c2 hc
      have hpx : p l[i] = false := HM.out _ (List.getElem_mem _)
      rw [hpx] at hcall
      have HCA := Lib.hid hcall
      clear hpx hcall
      go_wp2_with (refine HCA.out.mono ?_; rintro e w' ⟨rfl, hF2⟩; have HF2 := Lib.hid hF2; clear hF2)
      refine ⟨⟨i + 1, by omega, by go_num, HF.out.trans HF2.out⟩, by simp [intOf]; omega⟩
    · have hil' : ¬ (i : Int) < l.length := by omega
      clear hF
      go_wp2_with fail
      go_ret
      exact ⟨rfl, HF.out⟩
end

theorem info_map : (Try.prog.info? 56).map (fun i => (i.zero, i.size, i.bytes)) = some (some (.agg #[.int .i64 0, .int .i64 0, .int .i64 0]), 3, 24) := by kernel_rfl
end Go.Proofs.Ytoifefcbegdjdaa
