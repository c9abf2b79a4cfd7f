/- The statement Rows.ProcTableSaid is proved: the frame round the walk of ProcTable. No condition. Printed by frame.py of this session. -/
import Derived.Test.YtmgijchcfjmphaaRows
import Derived.Test.YtmgijchcfjmphaaOpen
import Derived.Lib.SmallJoins
import Derived.Test.YtmgijchcfjmphaaTbC
namespace Go.Proofs.Ytmgijchcfjmphaa.procTable
open Go.ChangeShapes Go.WideShapes Go.ChangeAt Go.RowKit Go.Joins
open Go.ChangeMaps (open_string shut_string)

theorem own : ownKnob Try.prog.godebug = none := by kernel_rfl
theorem laidOut : laidOutB Try.prog = true := by kernel_rfl
theorem flat0 : Flat Try.prog 51 [.int .i64, .int .i64, .int .i64, .int .i64] := by
  refine flat_struct Try.underlying51 (by kernel_rfl) (fun j k hk => ?_)
  match j, hk with
  | 0, hk => simp at hk; subst hk; exact ⟨_, rfl, rfl, by kernel_rfl, flat_int Try.underlying3 (by kernel_rfl)⟩
  | 1, hk => simp at hk; subst hk; exact ⟨_, rfl, rfl, by kernel_rfl, flat_int Try.underlying3 (by kernel_rfl)⟩
  | 2, hk => simp at hk; subst hk; exact ⟨_, rfl, rfl, by kernel_rfl, flat_int Try.underlying3 (by kernel_rfl)⟩
  | 3, hk => simp at hk; subst hk; exact ⟨_, rfl, rfl, by kernel_rfl, flat_int Try.underlying3 (by kernel_rfl)⟩
  | n + 4, hk => simp at hk

set_option maxRecDepth 100000 in
theorem lifted (os : Os) (started : os.Started) (H : Type) (enc : TypeId × Value → H) :
    ReturnsInHanded {} Try.checked os 7 .any (Rows.procTableSpec.pre6 enc Try.prog Try.f7 Rows.procTableRow.domain false) (Rows.procTableSpec.post enc Try.prog Try.f7 false true false false) := by
  refine returnsInHanded_of_change (C := Try.checked) own started (by kernel_rfl) Try.func7
    (ChangeSpec.witness6 (enc := enc) (C := Try.checked) false ⟨#[], #[.slice none 0 0], []⟩ 8 (by kernel_rfl) (by kernel_rfl) (by kernel_rfl) (by kernel_rfl)) ?_
  intro W base args ds gs before hval0 hW hcnd _
  have hval : ∀ (j : Nat) t v, Try.f7.params[j]? = some t → args[j]? = some v → Value.okWide Try.prog W .any base t v := hval0
  have hW' := hW
  obtain ⟨p, q, hA0, hV, rfl, hfz, hnd⟩ := hW
  have hA : DataW.TrodAll enc Try.prog W 0 (fun _ => true) true Try.f7.params.toList args.toList ds p := hA0
  rw [Try.params7] at hA hval
  obtain ⟨v0, vs0, d0, ds0, p0, q0, hargs, rfl, rfl, h0, r0⟩ := trodAll_cons hA
  obtain ⟨rfl, rfl, rfl⟩ := trodAll_nil r0
  obtain rfl : args = #[v0] := by cases args; simp_all
  obtain ⟨rfl, rfl⟩ := trodVars_none hV
  obtain ⟨a0, len0, cap0, rfl⟩ := okWide_slice Try.underlying47 (hval 0 47 v0 rfl rfl)
  have k0 := h0
  have lt0 : ∀ x ∈ p0, x.block < W.heap.size := by obtain ⟨m, hm⟩ := k0; exact DataW.trod_lt m _ _ _ hm
  obtain ⟨V0, s0⟩ := open_sl Try.underlying47 flat0 (by decide) h0
  clear hA0 hval0
  refine (procTable_walk a0 len0 cap0 V0 W s0).mono fun e W' ⟨he, bel⟩ => ?_
  subst he
  exact ⟨_, rfl, _, _, _, [], _, [], hW', trodAll_mk1 (shut_bool Try.underlying4 _), (trodAll_cons_mk (Below.trod laidOut (by kernel_rfl) (of_decide_eq_true (by kernel_rfl)) k0 bel lt0) trodAll_mk0), rfl, bel.frame _, fun h => by cases h⟩

theorem over : Rows.procTableRow.holds Try.pinned (OpenSpec.ofChange Rows.procTableSpec) :=
  OpenClaim.holds_of_wide 7 Try.f7 rfl rfl rfl rfl rfl rfl rfl ⟨rfl, rfl, rfl, rfl, rfl⟩ rfl rfl rfl rfl rfl (by kernel_rfl) Try.func7 (by kernel_rfl)
    (of_decide_eq_true (by kernel_rfl)) (by unfold Func.isWrapper; first | (rw [if_pos (by decide +kernel)]; kernel_rfl) | (rw [if_neg (by decide +kernel)]; exact ⟨rfl, rfl⟩))
    (fun os started H enc _ => lifted os started H enc)

theorem proved : Rows.ProcTableSaid := over
#print axioms proved
end Go.Proofs.Ytmgijchcfjmphaa.procTable
