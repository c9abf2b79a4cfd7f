import Derived.Test.YtoifefcbegdjdaaTlb5
import Derived.Test.YtoifefcbegdjdaaSame
namespace Go.Proofs.Ytoifefcbegdjdaa
open Go.RowKit

/-- what harts remember, and the harts -/
structure TS (w0 w : World) (x n : Nat) (E : Nat → List Ent) (F : Nat → Prop) (hx hg : Nat) (G : Nat → HOne) : Prop where
  t : Tlb w x n E F
  h : HartsB w hx hg n G
  f : Fr (fun _ => False) w0 w
  d : ¬ F hx ∧ ¬ F hg
  o : ∀ k, F k → w0.heap.size ≤ k
  oh : w0.heap.size ≤ hg

section
variable {w0 w : World} {x n : Nat} {E : Nat → List Ent} {F : Nat → Prop} {hx hg : Nat} {G : Nat → HOne} (h : TS w0 w x n E F hx hg G)
include h
theorem TS.fr {w' : World} (f : Fr (fun _ => False) w w') : TS w0 w' x n E F hx hg G := ⟨h.t.fr f (fun _ _ => id), h.h.fr f id id, h.f.trans f, h.d, h.o, h.oh⟩
theorem TS.congr {E' : Nat → List Ent} {G' : Nat → HOne} (e : ∀ i, i < n → E i = E' i) (e2 : ∀ i, i < n → G i = G' i) : TS w0 w x n E' F hx hg G' := ⟨h.t.congr e, h.h.congr e2, h.f, h.d, h.o, h.oh⟩
theorem TS.to {w' : World} {E' : Nat → List Ent} {F' : Nat → Prop} (f : Fr F w w') (t : Tlb w' x n E' F') (hF : ∀ k, F' k → F k ∨ w.heap.size ≤ k) : TS w0 w' x n E' F' hx hg G :=
  ⟨t, h.h.fr f h.d.1 h.d.2, h.f.step f (fun k hk hs => by have := h.o k hs; omega), ⟨fun hk => (hF _ hk).elim h.d.1 (fun hk => by have := h.h.h.lt; omega), fun hk => (hF _ hk).elim h.d.2 (fun hk => by have := h.h.a.lt; omega)⟩, fun k hk => (hF k hk).elim (h.o k) (fun hk => by have := h.f.size; omega), h.oh⟩
theorem TS.fill {i : Nat} (hi : i < n) (m : Ent) : Calls Try.prog 38 #[.pointer (some ⟨x, 0, none⟩), .int .i64 i, m.v] w fun e w' => e = .returned (.tuple #[]) ∧ ∃ F', TS w0 w' x n (upd E i (fillL (E i) m)) F' hx hg G ∧ Fr F w w' ∧ ∀ k, F' k → F k ∨ w.heap.size ≤ k :=
  (tlb_fill x n E F i w h.t hi m).mono fun _ _ ⟨he, f, F', t, hF⟩ => ⟨he, F', h.to f t hF, f, hF⟩
end

/-- .. and pages on their way out -/
structure TSS (w0 w : World) (x n : Nat) (E : Nat → List Ent) (F : Nat → Prop) (hx hg : Nat) (G : Nat → HOne) (s : Nat) (pv : Value) (l : List Int) (wb : Nat) (B : Nat → Bool) : Prop where
  t : TS w0 w x n E F hx hg G
  sh : Shot w s x pv l wb n B
  d : ¬ F s ∧ ¬ F wb ∧ ∀ k, Of pv k → ¬ F k
  o : w0.heap.size ≤ wb

section
variable {w0 w : World} {x n : Nat} {E : Nat → List Ent} {F : Nat → Prop} {hx hg : Nat} {G : Nat → HOne}
theorem TS.shoot (h : TS w0 w x n E F hx hg G) {me : Nat} (hn : n ≤ 1000) (hme : me < n) {pv : Value} {l : List Int} (R : Rd w pv (ints l)) (hl : l.length ≤ 1000000) (hb : ∀ k, At pv k → ¬ F k) (hm : ∀ j, j < n → (G j).mail < 256) :
    Calls Try.prog 39 #[.pointer (some ⟨x, 0, none⟩), .pointer (some ⟨hx, 0, none⟩), .int .i64 me, pv] w fun e w' => ∃ s wb pv' F', e = .returned (.pointer (some ⟨s, 0, none⟩)) ∧ TSS w0 w' x n (upd E me (spared (E me) l)) F' hx hg (posted me G n) s pv' l wb (fun j => decide (j ≠ me)) ∧ Fr (fun k => F k ∨ k = hg) w w' ∧ (∀ k, F' k → F k ∨ w.heap.size ≤ k) ∧ w.heap.size ≤ s ∧ w.heap.size ≤ wb := by
  refine (tlb_shoot x n E F hx hg G me pv l w h.t h.h hn hme R hl hb h.d hm).mono ?_
  rintro e w' ⟨s, wb, pv', rfl, f, hS, hH, F', hT, hF', d1, d2, d3, o1, o2⟩
  have l1 := h.h.h.lt
  have l2 := h.h.a.lt
  have l3 := h.f.size
  exact ⟨s, wb, pv', F', rfl, ⟨⟨hT, hH, h.f.step f (fun k hk hs => hs.elim (fun hs => by have := h.o k hs; omega) (fun e => by have := h.oh; omega)), ⟨fun hk => (hF' _ hk).elim h.d.1 (fun hk => by omega), fun hk => (hF' _ hk).elim h.d.2 (fun hk => by omega)⟩, fun k hk => (hF' k hk).elim (h.o k) (fun hk => by omega), h.oh⟩, hS, ⟨d1, d2, d3⟩, by omega⟩, f, hF', o1, o2⟩

variable {s : Nat} {pv : Value} {l : List Int} {wb : Nat} {B : Nat → Bool} (h : TSS w0 w x n E F hx hg G s pv l wb B)
include h
theorem TSS.fr {w' : World} (f : Fr (fun _ => False) w w') : TSS w0 w' x n E F hx hg G s pv l wb B := ⟨h.t.fr f, h.sh.fr f (fun _ => False.elim), h.d, h.o⟩
theorem TSS.answer {i : Nat} (hi : i < n) (hb : B i = true) (hl : l.length ≤ 1000000) :
    Calls Try.prog 42 #[.pointer (some ⟨s, 0, none⟩), .int .i64 i] w fun e w' => e = .returned (.int .i64 ((E i).length - (spared (E i) l).length : Int)) ∧ ∃ F', TSS w0 w' x n (upd E i (spared (E i) l)) F' hx hg G s pv l wb (upd B i false) ∧ Fr (fun k => F k ∨ k = wb) w w' ∧ ∀ k, F' k → F k ∨ w.heap.size ≤ k := by
  refine (shot_answer s x pv l wb n B E F w h.sh h.t.t i hi hb hl h.d).mono ?_
  rintro e w' ⟨rfl, f, hS, F', hT, hF'⟩
  have l1 := h.t.h.h.lt
  have l2 := h.t.h.a.lt
  have l3 := h.t.f.size
  have l4 := h.sh.h.lt
  have l5 := h.sh.a.lt
  have n1 : wb ≠ hx := h.sh.a.ne h.t.h.h (by decide)
  have n2 : hg ≠ wb := h.sh.a.elim fun c hc => h.t.h.a.ne hc.1 (by decide)
  have ng : ∀ k, k < w.heap.size → ¬ F k → ¬ F' k := fun k h1 h2 h3 => (hF' k h3).elim h2 (fun h => by omega)
  exact ⟨rfl, F', ⟨⟨hT, h.t.h.fr f (fun hk => hk.elim h.t.d.1 (fun e => n1 e.symm)) (fun hk => hk.elim h.t.d.2 n2), h.t.f.step f (fun k hk hs => hs.elim (fun hs => by have := h.t.o k hs; omega) (fun e => by have := h.o; omega)), ⟨ng hx l1 h.t.d.1, ng hg l2 h.t.d.2⟩, fun k hk => (hF' k hk).elim (h.t.o k) (fun hk => by omega), h.t.oh⟩, hS, ⟨ng s l4 h.d.1, ng wb l5 h.d.2.1, fun k hk => ng k (h.sh.p.lt hk) (h.d.2.2 k hk)⟩, h.o⟩, f, hF'⟩
theorem TSS.took {w' : World} {G' : Nat → HOne} (f : Fr (fun k => k = hg) w w') (H : HartsB w' hx hg n G') : TSS w0 w' x n E F hx hg G' s pv l wb B := by
  have n1 : hg ≠ s := h.t.h.a.ne h.sh.h (by decide)
  have n2 : hg ≠ wb := h.sh.a.elim fun c hc => h.t.h.a.ne hc.1 (by decide)
  have n3 : ¬ Of pv hg := h.t.h.a.elim fun c hc => h.sh.p.ne hc.1 (by decide)
  exact ⟨⟨h.t.t.fr f (fun k hk e => h.t.d.2 (e ▸ hk)), H, h.t.f.step f (fun k hk e => by have := h.t.oh; omega), h.t.d, h.t.o, h.t.oh⟩, h.sh.fr f (fun k e => ⟨fun e2 => n1 (by omega), fun e2 => n2 (by omega), fun e2 => n3 (e ▸ e2)⟩), h.d, h.o⟩
theorem TSS.take {i : Nat} (hi : i < n) (hz : (G i).mail ≠ 0) (hb : (G i).mail < 256) {q : Nat} {v : Int} (hq : tzn (G i).mail = q) (hv : (q : Int) = v) : Calls Try.prog 43 #[.pointer (some ⟨hx, 0, none⟩), .int .i64 i] w fun e w' => e = .returned (.tuple #[.int .i64 v, .bool true]) ∧ TSS w0 w' x n E F hx hg (upd G i { G i with mail := takeb (G i).mail q }) s pv l wb B ∧ Fr (fun k => k = hg) w w' :=
  (hart_take_eq hx hg n G i w h.t.h hi hz hb hq hv).mono fun _ _ ⟨he, f, H⟩ => ⟨he, h.took f H, f⟩
end

def EE (a b : List Ent) (i : Nat) : List Ent := if i = 0 then a else b
theorem EE_upd0 (a b c : List Ent) (i : Nat) (_ : i < 2) : upd (EE a b) 0 c i = EE c b i := by unfold upd EE; split <;> rfl
theorem EE_upd1 (a b c : List Ent) (i : Nat) (hi : i < 2) : upd (EE a b) 1 c i = EE a c i := by
  match i, hi with
  | 0, _ => rfl
  | 1, _ => rfl

end Go.Proofs.Ytoifefcbegdjdaa
