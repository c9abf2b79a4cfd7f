import Derived.Test.YtmgijchcfjmphaaView
import Derived.Deep.RegionHeld3
namespace Go.Proofs.Ytmgijchcfjmphaa
open Go.RowKit

theorem Fr.to (S : Nat → Prop) {w w' : World} (f : Fr (fun _ => False) w w') : Fr S w w' := f.mono (fun _ _ => False.elim)
theorem Fr.trans' {S : Nat → Prop} {a b c : World} (f : Fr (fun _ => False) a b) (k : Fr S b c) : Fr S a c := (f.to S).trans k
/-- a new block, written whole -/
theorem Fr.put {a w : World} (f : Fr (fun _ => False) a w) {b : Nat} (hb : a.heap.size ≤ b) (c : Array Value) : Fr (fun _ => False) a (putRow w b c) := f.step (putRow_fr w b c) (fun i hi e => by omega)

/-- the store's own value at a key -/
def at_ (st : Nat → Val) (k : Key) : Val := match place k with | none => Val.zero | some p => st p
set_option maxRecDepth 20000 in
theorem store_get (s g : Nat) (st : Nat → Val) (k : Key) (w : World) (h : StB w s g st) :
    Calls Try.prog 38 #[.pointer (some ⟨s, 0, none⟩), keyV k] w fun e w' => e = .returned (.agg (at_ st k).cells) ∧ Fr (fun _ => False) w w' := by
  obtain ⟨a, b⟩ := k
  have HP := Lib.hid (fun w => key_place (a, b) w)
  have FIN : Hid (∀ w1, Fr (fun _ => False) ((w.alloc (.cells #[.int .i64 a, .int .i64 b] 61)).alloc (.cells Val.zero.cells 59)) w1 → StB w1 s g st ∧ Blk w1 (w.heap.size + 1) Val.zero.cells 59 ∧ Fr (fun _ => False) w w1) := fun w1 f => by
    have f0 : Fr (fun _ => False) w ((w.alloc (.cells #[.int .i64 a, .int .i64 b] 61)).alloc (.cells Val.zero.cells 59)) := ((Fr.refl _ _).alloc _).alloc _
    exact ⟨h.fr (f0.trans f) id id, (Blk.at_new (by simp)).fr f id, f0.trans f⟩
  cases hp : place (a, b) with
  | none =>
    have hz := placeZ_none hp
    rw [hz] at HP
    have HE := Lib.hid (show at_ st (a, b) = Val.ofS ⟨#[]⟩ by unfold at_; rw [hp]; rfl)
    rw [HE.out]
    clear hp hz h
    go_enter Try.func38, Try.ntmps38
    go_wp2_with fail
    refine (HP.out _).mono ?_
    rintro e w1 ⟨rfl, f1⟩
    obtain ⟨h1, b1, g1⟩ := FIN.out w1 f1
    obtain ⟨q0, q1, q2, q3, q4⟩ := b1.facts
    have HF := Lib.hid g1
    clear f1 b1 h1 g1
    go_wp2_with fail
    exact bodyPost_ret (v := .agg (Val.ofS ⟨#[]⟩).cells) (results_val Try.results38 rfl (rowAt_putRow _ _ _ _ q1 rfl)) rfl ⟨rfl, HF.out.put (by omega) _⟩
  | some p =>
    have hz := placeZ_some hp
    rw [hz] at HP
    have HE := Lib.hid (show at_ st (a, b) = st p by unfold at_; rw [hp])
    rw [HE.out]
    have hlt : p < 55 := (place_some hp).2.2.2.2.2
    have hlt' : (p : Int) < 55 := by omega
    clear hp hz h
    go_enter Try.func38, Try.ntmps38
    go_wp2_with fail
    refine (HP.out _).mono ?_
    rintro e w1 ⟨rfl, f1⟩
    obtain ⟨h1, b1, g1⟩ := FIN.out w1 f1
    have r1 := h1.row hlt
    have s1 := h1.h.cell 0
    obtain ⟨q0, q1, q2, q3, q4⟩ := b1.facts
    have HF := Lib.hid g1
    clear f1 b1 h1 g1
    go_wp2_with fail
    exact bodyPost_ret (v := .agg (st p).cells) (results_val Try.results38 rfl (rowAt_putRow _ _ _ _ q1 rfl)) rfl ⟨rfl, HF.out.put (by omega) _⟩

def putAt (st : Nat → Val) (k : Key) (x : Val) : Nat → Val := match place k with | none => st | some p => upd st p x
set_option maxRecDepth 20000 in
theorem store_put (s g : Nat) (st : Nat → Val) (k : Key) (x : Val) (w : World) (h : StB w s g st) (hx : x.Ok) :
    Calls Try.prog 31 #[.pointer (some ⟨s, 0, none⟩), keyV k, .agg x.cells] w fun e w' => e = .returned (.bool (place k).isSome) ∧ StB w' s g (putAt st k x) ∧ Fr (fun k => k = g) w w' := by
  obtain ⟨a, b⟩ := k
  have HP := Lib.hid (fun w => key_place (a, b) w)
  have FIN : Hid (∀ w1, Fr (fun _ => False) ((w.alloc (.cells #[.int .i64 a, .int .i64 b] 61)).alloc (.cells x.cells 59)) w1 → StB w1 s g st ∧ Blk w1 (w.heap.size + 1) x.cells 59 ∧ Fr (fun _ => False) w w1) := fun w1 f => by
    have f0 : Fr (fun _ => False) w ((w.alloc (.cells #[.int .i64 a, .int .i64 b] 61)).alloc (.cells x.cells 59)) := ((Fr.refl _ _).alloc _).alloc _
    exact ⟨h.fr (f0.trans f) id id, (Blk.at_new (by simp)).fr f id, f0.trans f⟩
  cases hp : place (a, b) with
  | none =>
    have hz := placeZ_none hp
    rw [hz] at HP
    have HE := Lib.hid (show putAt st (a, b) x = st by unfold putAt; rw [hp])
    rw [HE.out]
    clear hp hz h hx
    go_enter Try.func31, Try.ntmps31
    go_wp2_with fail
    refine (HP.out _).mono ?_
    rintro e w1 ⟨rfl, f1⟩
    obtain ⟨h1, b1, g1⟩ := FIN.out w1 f1
    have HB := Lib.hid h1
    have HF := Lib.hid g1
    clear f1 b1 h1 g1
    go_wp2_with fail
    go_ret
    exact ⟨rfl, HB.out, HF.out.to _⟩
  | some p =>
    have hz := placeZ_some hp
    rw [hz] at HP
    have HE := Lib.hid (show putAt st (a, b) x = upd st p x by unfold putAt; rw [hp])
    rw [HE.out]
    have hlt : p < 55 := (place_some hp).2.2.2.2.2
    have hlt' : (p : Int) < 55 := by omega
    have HX := Lib.hid hx
    clear hp hz h hx
    go_enter Try.func31, Try.ntmps31
    go_wp2_with fail
    refine (HP.out _).mono ?_
    rintro e w1 ⟨rfl, f1⟩
    obtain ⟨h1, b1, g1⟩ := FIN.out w1 f1
    have r1 := h1.softRow hlt
    have s1 := h1.h.cell 0
    obtain ⟨q0, q1, q2, q3, q4⟩ := b1.facts
    have HB := Lib.hid h1
    have HF := Lib.hid g1
    clear f1 b1 h1 g1
    go_wp2_with fail
    go_region
    go_wp2_with fail
    go_ret
    have hb := HB.out.lay hlt HX.out
    exact ⟨rfl, hb.fr (Fr.refl (fun _ => False) _).drew id id, (HF.out.to _).trans (layRow_fr _ _ _ _).drew⟩
end Go.Proofs.Ytmgijchcfjmphaa
