import Derived.Test.YtmgijchcfjmphaaViewP
import Derived.Deep.RegionWith
namespace Go.Proofs.Ytmgijchcfjmphaa
open Go.RowKit

theorem ref_newstore (w : World) : Calls Try.prog 30 #[] w fun e w' => e = .returned (.pointer (some ⟨w.heap.size + 1, 0, none⟩)) ∧ Fr (fun _ => False) w w' ∧ w.heap.size + 1 < w'.heap.size := by
  have hmm := fun t w => run_makeMap (P := Try.prog) t w
  go_enter Try.func30, Try.ntmps30
  go_wp2_with fail
  go_ret
  exact ⟨by simp, ((Fr.refl _ _).alloc _).alloc _, by simp⟩
theorem ref_newview (d : Nat) (w : World) : Calls Try.prog 43 #[.pointer (some ⟨d, 0, none⟩)] w fun e w' => ∃ b, e = .returned (.pointer (some ⟨b, 0, none⟩)) ∧ Fr (fun _ => False) w w' := by
  have hmm := fun t w => run_makeMap (P := Try.prog) t w
  go_enter Try.func43, Try.ntmps43
  go_wp2_with fail
  go_ret
  exact ⟨_, rfl, (((Fr.refl _ _).alloc _).alloc _).alloc _⟩

/-- block t is a pair of stores and views, of which the first view stands for σ -/
structure TwoB (w : World) (t : Nat) (V : Vw) (σ : St) : Prop where
  vs : VS w V σ
  c : ∃ a b c, Blk w t #[a, V.p, b, c] 30

set_option maxRecDepth 100000 in
set_option maxHeartbeats 1000000 in
theorem keep_look (t s g d : Nat) (u1 u3 : Value) (st : Nat → Val) (w : World) (h : StB w s g st) (ht : Blk w t #[.pointer (some ⟨s, 0, none⟩), u1, .pointer (some ⟨d, 0, none⟩), u3] 30) :
    Calls Try.prog 33 #[.pointer (some ⟨t, 0, none⟩)] w fun e w' => e = .returned (.tuple #[]) ∧ ∃ V : Vw, TwoB w' t V (.of st) ∧ V.s = s ∧ V.g = g ∧ Fr (fun k => k = t) w w' ∧ w.heap.size ≤ V.v ∧ w.heap.size ≤ V.r ∧ w.heap.size ≤ V.m := by
  have c0 := ht.cell 0
  have c2 := ht.cell 2
  have HT := Lib.hid ht
  have HS := Lib.hid h
  have HD := Lib.hid (show t ≠ s ∧ t ≠ g from ⟨fun e => by subst e; exact ht.ne h.h (.inr (by decide)) rfl, fun e => by subst e; exact h.a.ne ht (by decide) rfl⟩)
  clear h ht
  go_enter Try.func33, Try.ntmps33
  go_region_with (first
    | (go_at_call 42; refine (store_look s g st _ (HS.out.fr ((Fr.refl (fun _ => False) _).drew) id id)).mono ?_; rintro e w2 ⟨V, rfl, rfl, rfl, v2, f2, l1, l2, l3⟩; simp only [Vw.p]; have B2 := HT.out.fr ((Fr.refl (fun _ => False) _).drew.trans f2) id; have c0' := B2.cell 0; have c2' := B2.cell 2; have HV2 := Lib.hid v2; have HF2 := Lib.hid f2; have HL := Lib.hid (And.intro l1 (And.intro l2 l3)); have HB2 := Lib.hid B2; clear v2 f2 l1 l2 l3 B2)
    | (go_at_call 43; refine (ref_newview d _).mono ?_; rintro e w3 ⟨b3, rfl, f3⟩; have B3 := HB2.out.fr f3 id; have k1 := B3.cell 1; have k3 := B3.cell 3; have fz := B3.frozen; have lt := B3.lt; have HB3 := Lib.hid B3; have HF3 := Lib.hid f3; clear f3 B3))
  all_goals (
    go_wp2_with fail
    go_end0
    have f4 : Fr (fun k => k = t) w3 ((w3.setCell ⟨t, 1, none⟩ (.pointer (some ⟨V.v, 0, none⟩))).setCell ⟨t, 3, none⟩ (.pointer (some ⟨b3, 0, none⟩))) := (Fr.set1 _ _ _ _).trans (Fr.set1 _ _ _ _)
    have f5 : Fr (fun _ => False) w w3 := (Fr.refl (fun _ => False) _).drew.trans (HF2.out.trans HF3.out)
    have hz := HT.out.lt
    obtain ⟨l1, l2, l3⟩ := HL.out
    simp only [World.drew] at l1 l2 l3
    refine ⟨rfl, V, ⟨(HV2.out.fr0 HF3.out).fr f4 (fun k hk e => ?_), ⟨_, _, _, ((HB3.out.set 1 _).set 3 _)⟩⟩, rfl, rfl, f5.trans' f4, l1, l2, l3⟩
    have e' : k = t := e
    subst e'
    rcases hk with hk | hk | hk | hk | hk
    · omega
    · exact HD.out.1 hk
    · exact HD.out.2 hk
    · omega
    · omega)

set_option maxRecDepth 100000 in
set_option maxHeartbeats 1000000 in
theorem keep_new0 (w : World) : Calls Try.prog 14 #[.slice none 0 0] w fun e w' => ∃ t V, e = .returned (.pointer (some ⟨t, 0, none⟩)) ∧ TwoB w' t V (.of (fun _ => Val.zero)) ∧ Fr (fun _ => False) w w' ∧ ∀ k, V.has k → w.heap.size ≤ k := by
  go_enter Try.func14, Try.ntmps14
  go_wp2_with fail
  refine (store_new _).mono ?_
  rintro e w1 ⟨s, g, rfl, h1, f1, l1, l2⟩
  have HS1 := Lib.hid h1
  have HF1 := Lib.hid f1
  have HL := Lib.hid (And.intro l1 l2)
  clear h1 f1 l1 l2
  go_wp2_with fail
  refine (ref_newstore _).mono ?_
  rintro e w2 ⟨rfl, f2, l3⟩
  have HF2 := Lib.hid f2
  clear f2 l3
  go_wp2_with fail
  have f3 : Fr (fun _ => False) w2 (w2.alloc (.cells #[.pointer (some ⟨s, 0, none⟩), .pointer none, .pointer (some ⟨w1.heap.size + 1, 0, none⟩), .pointer none] 30)) := (Fr.refl _ _).alloc _
  have B3 := Blk.at_new (w := w2) (b := w2.heap.size) (c := #[.pointer (some ⟨s, 0, none⟩), .pointer none, .pointer (some ⟨w1.heap.size + 1, 0, none⟩), .pointer none]) (t := 30) rfl
  have HLK := Lib.hid (keep_look w2.heap.size s g (w1.heap.size + 1) _ _ _ _ ((HS1.out.fr HF2.out id id).fr f3 id id) B3)
  have HF3 := Lib.hid f3
  clear f3 B3
  go_loop [4] (fun t4 => t4 = .int .i64 0) (fun _ => 0)
  case atStart => rfl
  case round =>
    subst hrel
    go_wp2_with (go_at_call 33; (with_reducible refine HLK.out.mono ?_); rintro e w4 ⟨rfl, V, tb, hs, hg, f4, l1, l2, l3⟩; obtain ⟨q0, q1, q2, hB⟩ := tb.c; have c1 : w4.cell? ⟨w2.heap.size, 1, none⟩ = some (.pointer (some ⟨V.v, 0, none⟩)) := hB.cell 1; have HB := Lib.hid hB; have HTB := Lib.hid tb; have HF4 := Lib.hid f4; have HL2 := Lib.hid (And.intro hs (And.intro hg (And.intro l1 (And.intro l2 l3)))); clear hB tb f4 hs hg l1 l2 l3)
    go_ret
    obtain ⟨rfl, rfl, l1, l2, l3⟩ := HL2.out
    have z1 := HF1.out.size
    have z2 := HF2.out.size
    have f5 : Fr (fun _ => False) w _ := HF1.out.trans (HF2.out.trans HF3.out)
    refine ⟨_, V, rfl, HTB.out, f5.step HF4.out (fun k hk e => by have e' : k = w2.heap.size := e; omega), fun k hk => ?_⟩
    have l4 := HL.out
    simp only [World.size_alloc] at l1 l2 l3
    rcases hk with hk | hk | hk | hk | hk <;> omega
end Go.Proofs.Ytmgijchcfjmphaa
