import Derived.Test.YtmgijchcfjmphaaViewG
import Derived.Deep.RegionLaw
namespace Go.Proofs.Ytmgijchcfjmphaa
open Go.RowKit

set_option maxRecDepth 20000 in
theorem view_get (V : Vw) (σ : St) (k : Key) (w : World) (h : VS w V σ) :
    Calls Try.prog 24 #[V.p, keyV k] w fun e w' => e = .returned (.agg (σ.get k).cells) ∧ VS w' V (σ.got k) ∧ Fr V.foot w w' := by
  obtain ⟨lr, lw, h⟩ := h
  obtain ⟨a, b⟩ := k
  have HP := Lib.hid (fun w => key_place (a, b) w)
  have FIN : Hid (∀ w1, Fr (fun _ => False) ((w.alloc (.cells #[.int .i64 a, .int .i64 b] 61)).alloc (.cells Val.zero.cells 59)) w1 → VB w1 V σ lr lw ∧ Blk w1 (w.heap.size + 1) Val.zero.cells 59 ∧ Blk w1 w.heap.size #[.int .i64 a, .int .i64 b] 61 ∧ Fr (fun _ => False) w w1) := fun w1 f => by
    have f0 : Fr (fun _ => False) w ((w.alloc (.cells #[.int .i64 a, .int .i64 b] 61)).alloc (.cells Val.zero.cells 59)) := ((Fr.refl _ _).alloc _).alloc _
    exact ⟨h.fr (f0.trans f) (fun _ _ => id), (Blk.at_new (by simp)).fr f id, ((Blk.at_new rfl).alloc _).fr f id, f0.trans f⟩
  have HL := Lib.hid (fun k (hk : V.has k) => h.lt hk)
  cases hp : place (a, b) with
  | none =>
    have hz := placeZ_none hp
    rw [hz] at HP
    have HE := Lib.hid (show σ.get (a, b) = Val.ofS ⟨#[]⟩ by unfold St.get; rw [hp]; rfl)
    have HE2 := Lib.hid (show σ.got (a, b) = σ by unfold St.got; rw [hp])
    rw [HE.out, HE2.out]
    clear hp hz h
    unfold Vw.p
    go_enter Try.func24, Try.ntmps24
    go_wp2_with fail
    refine (HP.out _).mono ?_
    rintro e w1 ⟨rfl, f1⟩
    obtain ⟨h1, b1, _, g1⟩ := FIN.out w1 f1
    obtain ⟨q0, q1, q2, q3, q4⟩ := b1.facts
    have HF := Lib.hid g1
    have HV := Lib.hid h1
    clear f1 b1 h1 g1
    go_wp2_with fail
    have f2 := putRow_fr w1 (w.heap.size + 1) (Val.ofS ⟨#[]⟩).cells
    exact bodyPost_ret (v := .agg (Val.ofS ⟨#[]⟩).cells) (results_val Try.results24 rfl (rowAt_putRow _ _ _ _ q1 rfl)) rfl ⟨rfl, ⟨lr, lw, HV.out.fr f2 (fun k hk e => by have := HL.out k hk; omega)⟩, (HF.out.put (by omega) _).to _⟩
  | some p =>
    have hz := placeZ_some hp
    rw [hz] at HP
    have hlt : p < 55 := (place_some hp).2.2.2.2.2
    have hp0 : (0 : Int) ≤ p := by omega
    have HPP := Lib.hid hp
    clear hp hz h
    unfold Vw.p
    go_enter Try.func24, Try.ntmps24
    go_wp2_with fail
    refine (HP.out _).mono ?_
    rintro e w1 ⟨rfl, f1⟩
    obtain ⟨h1, b1, bk1, g1⟩ := FIN.out w1 f1
    obtain ⟨w2, hr2, m2, f2⟩ := (h1.mr.drew).update key_struct Try.underlying78 (a, b) (.bool true)
    have hr2' : (Instr.mapUpdate 78 (.map (some V.r)) (.agg #[.int .i64 a, .int .i64 b]) (.bool true)).run Try.prog w1.drew = .ok () w2 := hr2
    have v0 := h1.h.cell 0
    have v1 := h1.h.cell 1
    have v2 := h1.h.cell 2
    have c0 := bk1.cell 0
    have c1 := bk1.cell 1
    have HF := Lib.hid g1
    have HV := Lib.hid h1
    have HB := Lib.hid b1
    have HK := Lib.hid bk1
    have HM := Lib.hid m2
    have HF2 := Lib.hid f2
    clear f1 b1 h1 g1 hr2 bk1 m2 f2
    go_wp2_with fail
    go_region
    have hro : ¬ Vw.has V w2.heap.size := fun hk => by have := HL.out _ hk; have := HF.out.size; have := HF2.out.size; simp at *; omega
    have F2 : Fr (fun k => k = V.r) w1 w2 := (Fr.refl _ _).drew.trans HF2.out
    have hV2 : VB w2 V { σ with rd := upd σ.rd p true } (insA lr (a, b) (.bool true)) lw := by
      have hv := HV.out
      exact ⟨hv.h.fr F2 (fun e => hv.mr.ne hv.h e.symm), hv.s.fr F2 (fun e => hv.mr.ne hv.s.h e.symm) (fun e => hv.s.a.elim fun c hc => hv.mr.ne hc.1 e.symm), HM.out, hv.mw.fr F2 (fun e => hv.ne e.symm), nodup_ins hv.nr _ _, hv.nw,
        fun k hk => (mem_ins.1 hk).elim (fun e => by rw [e, HPP.out]; rfl) (hv.vr k), hv.vw, fun k q hq => by
          rw [getA_ins]
          by_cases e : k = (a, b)
          · subst e
            rw [if_pos rfl]
            obtain rfl : p = q := by rw [HPP.out] at hq; exact Option.some.inj hq
            simp only [upd_self, if_true]
          · rw [if_neg e, hv.gr k q hq]
            have hne : q ≠ p := fun e2 => e (place_inj (by rw [hq, HPP.out, e2]) (by rw [hq]; rfl))
            simp only [upd_ne _ _ hne], hv.gw, hv.ne, hv.ok⟩
    have hbx : w.heap.size + 1 ≠ V.r := fun e => by have := HL.out V.r (.inr (.inr (.inr (.inl rfl)))); omega
    have hkx : w.heap.size ≠ V.r := fun e => by have := HL.out V.r (.inr (.inr (.inr (.inl rfl)))); omega
    obtain ⟨q0, q1, q2, q3, q4⟩ := (HB.out.fr F2 hbx).facts
    have bk2 := HK.out.fr F2 hkx
    have c0' := bk2.cell 0
    have c1' := bk2.cell 1
    have u0 := hV2.h.cell 0
    have u2 := hV2.h.cell 2
    have q5 : w.heap.size < w2.heap.size := by omega
    have hlk := (hV2.mw.drew).lookup key_struct Try.underlying79 (a, b) (.agg (Val.ofS ⟨#[]⟩).cells) val_zero true
    have hlm := ((hV2.mw.alloc (.cells (Val.ofS ⟨#[]⟩).cells 59)).drew).lookup key_struct Try.underlying79 (a, b) (.agg (Val.ofS ⟨#[]⟩).cells) val_zero true
    have q6 := hV2.lt (.inl rfl)
    have hgw := hV2.gw (a, b) p HPP.out
    have HV2 := Lib.hid hV2
    have HFF := Lib.hid F2
    clear hro hbx hkx bk2 hV2 F2 v0 v1 v2 c0 c1
    simp only at hgw
    rw [hgw] at hlk hlm
    have HE2 := Lib.hid (show σ.got (a, b) = { σ with rd := upd σ.rd p true } by unfold St.got; rw [HPP.out])
    clear hgw hr2'
    cases hw : σ.wr p with
    | some x =>
      have HE := Lib.hid (show σ.get (a, b) = x by unfold St.get; rw [HPP.out]; simp only [hw, Option.getD_some])
      rw [hw] at hlk hlm
      have hlk' : (Instr.lookup 79 (.map (some V.m)) (.agg #[.int .i64 a, .int .i64 b]) true).run Try.prog w2.drew = .ok (.tuple #[.agg x.cells, .bool true]) w2.drew := hlk
      have hlm' : (Instr.lookup 79 (.map (some V.m)) (.agg #[.int .i64 a, .int .i64 b]) true).run Try.prog (w2.alloc (.cells (Val.ofS ⟨#[]⟩).cells 59)).drew = .ok (.tuple #[.agg x.cells, .bool true]) (w2.alloc (.cells (Val.ofS ⟨#[]⟩).cells 59)).drew := hlm
      clear hlk hlm hw
      go_wp2_with fail
      go_region
      all_goals (
        go_wp2_with fail
        have f3 : Fr (fun _ => False) w2 ((w2.alloc (.cells x.cells 59)).drew) := ((Fr.refl _ _).alloc _).drew
        have f4 := putRow_fr ((w2.alloc (.cells x.cells 59)).drew) (w.heap.size + 1) x.cells
        have hs : soft ((w2.alloc (.cells x.cells 59)).drew) (w.heap.size + 1) 17 = true := by rw [soft_drew, soft_alloc_old _ _ _ _ q4]; exact q1
        refine bodyPost_ret (v := .agg x.cells) (results_val Try.results24 rfl (rowAt_putRow _ _ _ _ hs rfl)) rfl ⟨by rw [HE.out], by rw [HE2.out]; exact ⟨_, _, HV2.out.fr (f3.trans' f4) (fun k hk e => by have e' : k = w.heap.size + 1 := e; have := HL.out k hk; omega)⟩, ?_⟩
        exact ((HF.out.to _).trans (HFF.out.mono (fun k _ e => .inl e))).step (f3.trans' f4) (fun k hk e => by have e' : k = w.heap.size + 1 := e; omega))
    | none => 
      have HA := Lib.hid (show at_ σ.st (a, b) = σ.st p by unfold at_; rw [HPP.out])
      have HE := Lib.hid (show σ.get (a, b) = σ.st p by unfold St.get; rw [HPP.out]; simp only [hw, Option.getD_none])
      rw [hw] at hlk hlm
      have hlk' : (Instr.lookup 79 (.map (some V.m)) (.agg #[.int .i64 a, .int .i64 b]) true).run Try.prog w2.drew = .ok (.tuple #[.agg (Val.ofS ⟨#[]⟩).cells, .bool false]) w2.drew := hlk
      have hlm' : (Instr.lookup 79 (.map (some V.m)) (.agg #[.int .i64 a, .int .i64 b]) true).run Try.prog (w2.alloc (.cells (Val.ofS ⟨#[]⟩).cells 59)).drew = .ok (.tuple #[.agg (Val.ofS ⟨#[]⟩).cells, .bool false]) (w2.alloc (.cells (Val.ofS ⟨#[]⟩).cells 59)).drew := hlm
      clear hlk hlm hw
      go_wp2_with fail
      go_region
      all_goals (
        go_wp2_with fail
        have hS3 : StB ((w2.alloc (.cells (Val.ofS ⟨#[]⟩).cells 59)).drew).drew V.s V.g σ.st := HV2.out.s.fr (((Fr.refl (fun _ => False) _).alloc _).drew.drew) id id
        have HG := Lib.hid (store_get V.s V.g σ.st (a, b) _ hS3)
        have AFT : Hid (∀ w4, Fr (fun _ => False) ((w2.alloc (.cells (Val.ofS ⟨#[]⟩).cells 59)).drew).drew w4 → soft w4 (w.heap.size + 1) 17 = true ∧ Hid (Fr (fun _ => False) w2 w4)) := fun w4 f => by
          have f5 : Fr (fun _ => False) w2 w4 := (((Fr.refl (fun _ => False) _).alloc _).drew.drew).trans f
          exact ⟨((HB.out.fr HFF.out (fun e => by have := HL.out V.r (.inr (.inr (.inr (.inl rfl)))); omega)).fr f5 id).soft rfl, f5⟩
        clear hS3
        go_region_with ((go_at_call 38; refine HG.out.mono ?_; rintro e w4 ⟨rfl, f4⟩; obtain ⟨k0, HF4⟩ := AFT.out w4 f4; clear f4))
        all_goals (
          go_wp2_with fail
          have f4 := putRow_fr w4 (w.heap.size + 1) (at_ σ.st (a, b)).cells
          refine bodyPost_ret (v := .agg (at_ σ.st (a, b)).cells) (results_val Try.results24 rfl (rowAt_putRow _ _ _ _ k0 rfl)) rfl ⟨by rw [HE.out, HA.out], by rw [HE2.out]; exact ⟨_, _, HV2.out.fr (HF4.out.trans' f4) (fun k hk e => by have e' : k = w.heap.size + 1 := e; have := HL.out k hk; omega)⟩, ?_⟩
          exact ((HF.out.to _).trans (HFF.out.mono (fun k _ e => .inl e))).step (HF4.out.trans' f4) (fun k hk e => by have e' : k = w.heap.size + 1 := e; omega)))
end Go.Proofs.Ytmgijchcfjmphaa
