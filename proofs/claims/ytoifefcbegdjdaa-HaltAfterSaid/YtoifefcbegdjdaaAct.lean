import Derived.Test.YtoifefcbegdjdaaHaltD
import Derived.Test.YtoifefcbegdjdaaSl
import Derived.OwnWalk
import Derived.RegionTactic
import Derived.RegionDies
namespace Go.Proofs.Ytoifefcbegdjdaa
open Go.RowKit

theorem info_int : (Try.prog.info? 3).map (fun i => (i.zero, i.size, i.bytes)) = some (some (.int .i64 0), 1, 8) := by kernel_rfl

theorem Tame.ret {s : Stp} {v v' : Value} (h : Tame s (.returned v)) : Tame s (.returned v') := by
  cases s with
  | ok => exact ⟨v', rfl⟩
  | stop a b => obtain ⟨o, h, _⟩ := h; simp at h
  | other => obtain ⟨T, v, o, h, _⟩ := h; simp at h
theorem Tame.no {s : Stp} (h : Tame s .outgrown) : False := by
  cases s with
  | ok => obtain ⟨v, h⟩ := h; simp at h
  | stop a b => obtain ⟨o, h, _⟩ := h; simp at h
  | other => obtain ⟨T, v, o, h, _⟩ := h; simp at h

/-- what a deed comes to -/
def outD (k a : Int) : Stp := if k = 1 then .stop 9 a else if k = 2 then .other else .ok

set_option maxRecDepth 100000 in
theorem act_any (k a i : Int) (bs : Nat) (v : Value) (n : Nat) (xs : List Value) (w : World) (hi : 0 ≤ i) (hi2 : i ≤ 1000000) (hb : Blk w bs #[v] 24) (ho : Own w 3 1 n v xs) (hn : n ≤ 1000000) :
    Calls Try.prog 13 #[.agg #[.int .i64 k, .int .i64 a], .int .i64 i, .pointer (some ⟨bs, 0, none⟩)] w fun e w' =>
      Tame (outD k a) e ∧ ∃ v', Blk w' bs #[v'] 24 ∧ Own w' 3 1 (n + 1) v' (xs ++ [.int .i64 i]) ∧ Fr (fun j => j = bs ∨ Of v j) w w' ∧ ∀ j, Of v' j → Of v j ∨ w.heap.size ≤ j := by
  obtain ⟨i0, hif, hz0, hz1, hz2⟩ := info_parts info_int
  have hlt := hb.lt
  have hnb : ¬ Of v bs := ho.ne hb (by decide)
  have B1 : Blk ((w.alloc (.cells #[.int .i64 k, .int .i64 a] 23)).alloc (.cells #[.int .i64 i] 3)) bs #[v] 24 := (hb.alloc _).alloc _
  have B2 : Blk ((w.alloc (.cells #[.int .i64 k, .int .i64 a] 23)).alloc (.cells #[.int .i64 i] 3)) w.heap.size #[.int .i64 k, .int .i64 a] 23 := (Blk.new w _ _).alloc _
  have O1 : Own ((w.alloc (.cells #[.int .i64 k, .int .i64 a] 23)).alloc (.cells #[.int .i64 i] 3)) 3 1 n v xs :=
    ho.fr (((Fr.refl (fun _ => False) w).alloc _).alloc _) (fun _ _ h => h)
  have F1 : Fr (fun j => j = bs ∨ Of v j) w ((w.alloc (.cells #[.int .i64 k, .int .i64 a] 23)).alloc (.cells #[.int .i64 i] 3)) := ((Fr.refl _ w).alloc _).alloc _
  have hc := hb.cell 0
  have H1 := Lib.hid hb
  have H2 := Lib.hid ho
  have H3 := Lib.hid B1
  have H4 := Lib.hid B2
  have H5 := Lib.hid F1
  have H6 := Lib.hid hnb
  clear hb ho B1 B2 F1 hnb
  go_enter Try.func13, Try.ntmps13
  go_wp2_with (at_builtin; refine wpList_append_fresh rfl _ _ 24 rfl 3 i0 (.int .i64 0) 1 8 Try.underlying24 hif hz0 hz1 hz2 rfl (by decide) _ _ _ rfl O1 ⟨w.heap.size + 1, 0, none⟩ 1 1 [.int .i64 i] rfl rfl ?c1 ?c2 ?c3 ?c4 ?c5)
  case c1 => intro j u h; match j, h with
    | 0, h => simpa [Addr.add] using h
    | j + 1, h => simp at h
  case c2 => intro u hu; simp at hu; subst hu; rfl
  case c3 => unfold maxLen; omega
  case c4 => omega
  case c5 =>
    intro v' w1 O2 F2 hv'
    have B1' := H3.out.fr F2 H6.out
    have B2' := H4.out.fr F2 (fun h => absurd (H2.out.lt h) (Nat.lt_irrefl _))
    have F3 : Fr (fun j => j = bs ∨ Of v j) w w1 := H5.out.step F2 (fun i _ h => .inr h)
    have hv2 : ∀ j, Of v' j → Of v j ∨ w.heap.size ≤ j := by
      intro j hj
      rcases hv' j hj with h | h
      · exact .inl h
      · right; omega
    rcases O2.cases with ⟨_, h0, _⟩ | ⟨g, cap, rfl, hg, _, _, _, _⟩
    · omega
    have hbg : bs ≠ g := fun e => O2.ne B1' (by decide) (by rw [e]; rfl)
    have O3 : Own (w1.setCell ⟨bs, 0, none⟩ (.slice (some ⟨g, 0, none⟩) (n + 1) cap)) 3 1 (n + 1) (.slice (some ⟨g, 0, none⟩) (n + 1) cap) (xs ++ [.int .i64 i]) :=
      O2.fr ((Fr.refl (fun j => j = bs) w1).setCell (fun _ => rfl) _) (fun k hk e => hbg (by simp [Of, Value.ownBlock] at hk; omega))
    have B3 : Blk (w1.setCell ⟨bs, 0, none⟩ (.slice (some ⟨g, 0, none⟩) (n + 1) cap)) bs #[.slice (some ⟨g, 0, none⟩) (n + 1) cap] 24 := B1'.set 0 _
    have B4 := B2'.other (p := ⟨bs, 0, none⟩) (by dsimp only; omega) (.slice (some ⟨g, 0, none⟩) (n + 1) cap)
    have F4 : Fr (fun j => j = bs ∨ Of v j) w (w1.setCell ⟨bs, 0, none⟩ (.slice (some ⟨g, 0, none⟩) (n + 1) cap)) := F3.setCell (fun _ => .inl rfl) _
    have q0 := B1'.cell 0
    have qf := B1'.frozen 0
    have q1 := B2'.cell 0
    have q2 := B2'.cell 1
    have ne : bs ≠ w.heap.size := by omega
    have G1 := Lib.hid O3
    have G2 := Lib.hid B3
    have G3 := Lib.hid F4
    have G4 := Lib.hid hv2
    have G5 := Lib.hid B1'
    clear O1 O2 O3 B1' B2' B3 B4 F2 F3 F4 hv' hv2 H1 H2 H3 H4 H5 H6 hc
    by_cases k1 : k = 1
    · subst k1
      go_wp2_with (go_at_call 53; refine (stop_any _ _ _).mono ?_; rintro e w' ⟨rfl, rfl⟩)
      have ho : outD 1 a = .stop 9 a := by simp [outD]
      exact ⟨rfl, by rw [ho]; exact ⟨[], rfl, rfl⟩, _, G2.out, G1.out, G3.out, G4.out⟩
    · by_cases k2 : k = 2
      · subst k2
        obtain ⟨f, hf⟩ := index_out_fn Try.prog 24 none 0 0 .i64 (1 + i) Try.underlying24 (fun _ => rfl) (by omega)
        unfold boundsValue at hf
        have hf1 := fun w => (hf w).2
        have hf2 := Lib.hid fun w => (hf w).1
        clear hf
        go_wp2_with fail
        have hw : IntKind.i64.wrap (1 + i) = 1 + i := IntWalk.i64_in _ (by omega)
        go_region_dies
        all_goals
          have ho : outD 2 a = .other := by simp [outD]
          have h := hf2.out ((w1.setCell ⟨bs, 0, none⟩ (.slice (some ⟨g, 0, none⟩) (n + 1) cap)).drew)
          refine ⟨rfl, by rw [ho]; exact ⟨_, _, [], rfl, by decide, rfl⟩, .slice (some ⟨g, 0, none⟩) (n + 1) cap, ?_⟩
          rcases h with h | h <;> rw [h] <;> first | exact ⟨G2.out, G1.out, G3.out.drew, G4.out⟩ | exact ⟨G2.out, G1.out, G3.out.drew.drew, G4.out⟩
      · have k1' : (k == 1) = false := beq_eq_false_iff_ne.2 k1
        have k2' : (k == 2) = false := beq_eq_false_iff_ne.2 k2
        have ho : outD k a = .ok := by simp [outD, k1, k2]
        have HO := Lib.hid ho
        clear ho
        by_cases k3 : k = 3
        · subst k3
          go_wp2_with (go_at_call 54; refine (must_true _ _ _).mono ?_; rintro e w' ⟨rfl, rfl⟩)
          go_end0
          exact ⟨by rw [HO.out]; exact ⟨_, rfl⟩, _, G2.out, G1.out, G3.out, G4.out⟩
        · have k3' : (k == 3) = false := beq_eq_false_iff_ne.2 k3
          go_wp2_with fail
          go_end0
          exact ⟨by rw [HO.out]; exact ⟨_, rfl⟩, _, G2.out, G1.out, G3.out, G4.out⟩

set_option maxRecDepth 100000 in
theorem stops_any (k a : Int) (w : World) :
    Calls Try.prog 21 #[.agg #[.int .i64 k, .int .i64 a]] w fun e w' =>
      e = .returned (.tuple #[.agg #[.int .i64 (outD k a).why, .int .i64 (outD k a).at], .bool (outD k a).is]) ∧ Fr (fun _ => False) w w' := by
  by_cases k1 : k = 1
  · subst k1
    go_enter Try.func21, Try.ntmps21
    go_wp2
    exact bodyPost_ret (v := .tuple #[.agg #[.int .i64 9, .int .i64 a], .bool true]) (by simp [results, go_sem]) rfl ⟨by simp [outD], ((Fr.refl _ _).alloc _).alloc _⟩
  · have k1' : (k == 1) = false := beq_eq_false_iff_ne.2 k1
    by_cases k2 : k = 2
    · subst k2
      go_enter Try.func21, Try.ntmps21
      go_wp2
      exact bodyPost_ret (v := .tuple #[.agg #[.int .i64 1, .int .i64 0], .bool true]) (by simp [results, go_sem]) rfl ⟨by simp [outD], ((Fr.refl _ _).alloc _).alloc _⟩
    · have k2' : (k == 2) = false := beq_eq_false_iff_ne.2 k2
      have HO := Lib.hid (show outD k a = .ok by simp [outD, k1, k2])
      go_enter Try.func21, Try.ntmps21
      go_wp2
      exact bodyPost_ret (v := .tuple #[.agg #[.int .i64 0, .int .i64 0], .bool false]) (by simp [results, go_sem]) rfl ⟨by rw [HO.out]; rfl, ((Fr.refl _ _).alloc _).alloc _⟩

end Go.Proofs.Ytoifefcbegdjdaa
