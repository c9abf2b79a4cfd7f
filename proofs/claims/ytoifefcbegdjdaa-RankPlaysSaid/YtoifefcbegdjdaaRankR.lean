import Derived.Test.YtoifefcbegdjdaaRankQ
import Derived.Deep.CutRange
import Derived.Deep.Cut
import Derived.Deep.DeepCutAuto
namespace Go.Proofs.Ytoifefcbegdjdaa
open Go.RowKit

structure RpSt (w0 : World) (x k bx bo m : Nat) (L : Nat → List Int) (O : Int → Option Int) (F : Nat → Prop) (lm : List (Int × Value)) (w : World) : Prop where
  s : RankSt w0 x k bx L O F w
  rk : RK k L O
  mp : MapS kint w bo lm
  ok : MapOk lm O
  tt : tot L k = lm.length
  ln : ∀ i, i < k → (L i).length ≤ m
  d : ¬ F bo ∧ bo ≠ bx ∧ w0.heap.size ≤ bo
theorem RpSt.fr {w0 : World} {x k bx bo m : Nat} {L : Nat → List Int} {O : Int → Option Int} {F : Nat → Prop} {lm : List (Int × Value)} {w w' : World} (h : RpSt w0 x k bx bo m L O F lm w) (f : Fr (fun _ => False) w w') : RpSt w0 x k bx bo m L O F lm w' :=
  ⟨h.s.fr f, h.rk, h.mp.fr f id, h.ok, h.tt, h.ln, h.d⟩

theorem wp_last {P : Program} {c : Code} {K : Act → World → Prop} {Q : Exit → Act → World → Prop} {id : Nat} {a : Act} {w : World} (h : c.wp P (Exit.then K (Exit.inBlock id (Exit.then K Q))) a w) : c.wp P (Exit.inBlock id (Exit.then K Q)) a w :=
  Code.wp_mono (fun e a w h => by cases e <;> exact h) h

theorem rp_store {wc : World} {bo bw : Nat} {lm : List (Int × Value)} (m : MapS kint wc bo lm) (b : Blk wc bw #[.int .i64 0, .int .i64 0] 30) (h : bo < bw) (p q : Int) :
    MapS kint ((wc.setCell ⟨bw, 0, none⟩ (.int .i64 p)).setCell ⟨bw, 1, none⟩ (.int .i64 q)) bo lm ∧ Blk ((wc.setCell ⟨bw, 0, none⟩ (.int .i64 p)).setCell ⟨bw, 1, none⟩ (.int .i64 q)) bw #[.int .i64 p, .int .i64 q] 30 ∧ Fr (fun q => q = bo ∨ q = bw) wc ((wc.setCell ⟨bw, 0, none⟩ (.int .i64 p)).setCell ⟨bw, 1, none⟩ (.int .i64 q)) := by
  have f : Fr (fun k => k = bw) wc ((wc.setCell ⟨bw, 0, none⟩ (.int .i64 p)).setCell ⟨bw, 1, none⟩ (.int .i64 q)) := (Fr.set1 _ _ _ _).trans (Fr.set1 _ _ _ _)
  exact ⟨m.fr f (by omega), (b.set 0 (.int .i64 p)).set 1 (.int .i64 q), f.mono (fun _ _ h => .inr h)⟩

def RpRel (w0 : World) (x k bx bo len : Nat) (t8 : Value) (w : World) : Prop :=
  ∃ (i : Nat) (L : Nat → List Int) (O : Int → Option Int) (F : Nat → Prop) (lm : List (Int × Value)), i ≤ 60 ∧ i ≤ len ∧ t8 = .int .i64 i ∧ RpSt w0 x k bx bo i L O F lm w

set_option maxHeartbeats 8000000 in
set_option maxRecDepth 100000 in
theorem rankPlays_walk (n : Int) (a : Option Addr) (len cap : Nat) (V : Nat → Nat → Value) (w : World) (wf : (Lit.int .i64 n).wf = true) (s : IsSl [.int .i64, .int .i64, .bool] w a len cap V) :
    Calls Try.prog 6 #[.int .i64 n, .slice a len cap] w fun e w' => e = .returned (.bool true) ∧ Below w.heap.size w w' := by
  have hmf : ∀ (fn : Fn) (first cap : Array Value) (w : World), (Instr.makeFunc fn first cap).run Try.prog w = .ok (.func fn first cap) w := fun _ _ _ _ => rfl
  have hw := fun w => within_any n 1 5 w (wf_i64 wf) (by omega) (by omega) (by omega)
  have hk := wth_bd (n := n) (lo := 1) (hi := 5) (by omega)
  obtain ⟨k, hk'⟩ : ∃ k : Nat, wth n 1 5 = k := ⟨(wth n 1 5).toNat, by omega⟩
  rw [hk'] at hw hk
  have hk1 : 1 ≤ k := by omega
  have hk2 : k ≤ 5 := by omega
  have HW := Lib.hid hw
  obtain ⟨K, A, X, hA⟩ := AsksB.of s
  have HA := Lib.hid hA
  have HRR := Lib.hid rankRuns_any
  clear hw hk hk' wf s hA
  have hmm := fun w => run_makeMap (P := Try.prog) 46 w
  go_enter Try.func6, Try.ntmps6
  go_wp2_with (go_at_call 14; (with_reducible refine (HW.out _).mono ?_); rintro e w' ⟨rfl, rfl⟩)
  refine (rank_new k (by omega) _).mono ?_
  rintro e w1 ⟨rfl, f1, H1⟩
  have hlt := H1.lt (k := w.heap.size + 2) (by omega)
  have st := RankSt.mk (w0 := w) (H1.fr ((Fr.refl (fun _ => False) _).alloc (.cells #[.pointer (some ⟨w.heap.size + 2, 0, none⟩)] 36)) (fun _ _ => id)) (Blk.at_new (b := w1.heap.size) rfl) (f1.alloc _) ⟨by omega, fun k hk => hk.1⟩
  have hz1 : (w1.alloc (.cells #[.pointer (some ⟨w.heap.size + 2, 0, none⟩)] 36)).heap.size = w1.heap.size + 1 := by simp
  have H2 := Lib.hid (show RpSt w (w.heap.size + 2) k w1.heap.size (w1.heap.size + 1) 0 (fun _ => []) (fun _ => none) _ [] ((w1.alloc (.cells #[.pointer (some ⟨w.heap.size + 2, 0, none⟩)] 36)).alloc (.map #[] 0)) from
    ⟨st.fr ((Fr.refl _ _).alloc _), RK.nil k, MapS.new _ _ (by simp), ⟨by simp [keysA], fun _ => rfl⟩, tot_nil k, fun _ _ => by simp, by omega, by omega, by have := f1.size; omega⟩)
  clear f1 H1 st hz1
  go_wp2_with fail
  obtain ⟨x, hx⟩ : ∃ x, x = w.heap.size + 2 := ⟨_, rfl⟩
  obtain ⟨bx, hbx⟩ : ∃ bx, bx = w1.heap.size := ⟨_, rfl⟩
  obtain ⟨bo, hbo⟩ : ∃ bo, bo = w1.heap.size + 1 := ⟨_, rfl⟩
  rw [← hx, ← hbo, ← hbx] at H2
  rw [← hx, ← hbo, ← hbx]
  clear hlt hx hbx hbo
  go_loopw [8] (fun t8 wr => RpRel w x k bx bo len t8 wr) (fun t8 _ => (60 - intOf t8).toNat)
  case atStart => exact ⟨0, _, _, _, _, by omega, by omega, rfl, H2.out⟩
  case round =>
    obtain ⟨i, L, O, F, lm, hi, hil, rfl, hR⟩ := hrel
    have HR := Lib.hid hR
    have hs := hR.s
    have cx := hs.B.cell 0
    have lx := hs.B.lt
    have lo := hR.mp.lt
    clear H2
    by_cases hr : i < len ∧ i < 60
    · obtain ⟨hr1, hr2⟩ := hr
      have hr1' : (i : Int) < len := by omega
      have hr2' : (i : Int) < 60 := by omega
      rcases HA.out.at hs.f with h | ⟨b, off, rfl, hbw, hcl⟩
      · omega
      obtain ⟨⟨c0, hbd⟩, ⟨c1, hbd2⟩, c2⟩ := hcl i hr1
      have hi0 : (0 : Int) ≤ i := by omega
      obtain ⟨who, hwho⟩ : ∃ q, q = K i := ⟨_, rfl⟩
      obtain ⟨r, hrr⟩ : ∃ q, q = A i := ⟨_, rfl⟩
      obtain ⟨lt, hlt⟩ : ∃ q, q = X i := ⟨_, rfl⟩
      rw [← hwho] at c0
      rw [← hrr] at c1
      rw [← hlt] at c2
      obtain ⟨s, L', O', hD⟩ := Deed.any hR.rk who r lt
      have HD := Lib.hid hD
      clear hR hs hcl hbd hbd2 hwho hrr hlt hD
      go_wp2_with fail
      have HS2 := Lib.hid (HR.out.s.fr (((Fr.refl (fun _ => False) wr).alloc (.cells #[.int .i64 who, .int .i64 r, .bool lt] 44)).trans (gworld_fr _ _)))
      have HQ := Lib.hid (Blk.fr (Blk.at_new (w := wr) (b := wr.heap.size) (c := #[.int .i64 who, .int .i64 r, .bool lt]) (t := 44) rfl) (gworld_fr _ (fun _ => False)) id)
      refine (guard_does 32 _ _ s F _ (fun q hq => by have := HR.out.s.H.lt hq; simp; omega) (fun w => by simp [go_sem])
        (rankPlays1 x k bx wr.heap.size L O F who r lt s L' O' w _ HS2.out HQ.out HD.out HR.out.rk (fun j hj => by have := HR.out.ln j hj; omega))).mono ?_
      rintro e w2 ⟨rfl, fg, w3, ⟨F', hS3, hF'⟩, fg2, fg3⟩
      obtain ⟨HS, HB, HM, HF', HFR⟩ : Hid (RankSt w x k bx L' O' F' w2) ∧ Hid (Blk w2 wr.heap.size #[.int .i64 who, .int .i64 r, .bool lt] 44) ∧ Hid (MapS kint w2 bo lm) ∧ Hid (¬ F' bo ∧ bo < wr.heap.size) ∧ Hid (Fr F wr w2) := by
        have hlF : ∀ q, F q → q < wr.heap.size := fun q hq => HR.out.s.H.lt hq
        have hfz := HR.out.s.f.size
        have hnf : ∀ q, F' q → F q ∨ wr.heap.size + 4 ≤ q := fun q hq => (hF' q hq).imp id (fun h => by rw [gworld_size] at h; simpa using h)
        have hz2 : (wr.alloc (.cells #[.int .i64 who, .int .i64 r, .bool lt] 44)).heap.size = wr.heap.size + 1 := by simp
        rw [hz2] at fg3
        have frr : Fr F wr w2 := ((Fr.refl F wr).alloc _).trans fg
        refine ⟨⟨hS3.H.fr fg3 (fun q hq h => ?_), hS3.B.fr fg3 (fun h => by omega), hS3.f.step fg3 (fun q hq h => by omega), hS3.d⟩, (Blk.at_new (w := wr) rfl).fr fg (fun h => Nat.lt_irrefl _ (hlF _ h)), HR.out.mp.fr frr HR.out.d.1, ⟨fun h => (hnf bo h).elim HR.out.d.1 (fun h => by omega), lo⟩, frr⟩
        rcases hnf q hq with h' | h'
        · have := hlF q h'; omega
        · omega
      clear fg fg2 fg3 hS3 hF' HS2 HQ
      have cx2 := HS.out.B.cell 0
      have lx2 := HS.out.B.lt
      have cq0 := HB.out.cell 0
      have cq1 := HB.out.cell 1
      have cq2 := HB.out.cell 2
      have lq := HB.out.lt
      have HM3 := Lib.hid (HM.out.fr ((Fr.refl (fun _ => False) w2).alloc (.cells #[.int .i64 s.why, .int .i64 s.at] 30)) id)
      have hlk := HM3.out.toB.lookup (key_int Try.underlying3) Try.underlying46 r (.int .i64 0) zero_i64 true
      rw [HR.out.ok.g r] at hlk
      have hmp : ((Option.map kint (O r)).getD (.int .i64 0)) = .int .i64 ((O r).getD 0) := by cases O r <;> rfl
      have hmp2 : (Option.map kint (O r)).isSome = (O r).isSome := by cases O r <;> rfl
      rw [hmp, hmp2] at hlk
      obtain ⟨oy, hoy⟩ : ∃ q, q = (O r).getD 0 := ⟨_, rfl⟩
      obtain ⟨oh, hoh⟩ : ∃ q, q = (O r).isSome := ⟨_, rfl⟩
      rw [← hoy, ← hoh] at hlk
      have HOY := Lib.hid hoy
      have HOH := Lib.hid hoh
      have hlb := HM.out.lt
      clear hmp hmp2 hoy hoh
      generalize hbq : wr.heap.size = bq at *
      go_wp2_with (first | (at_range; refine wpList_range_s rfl _ 46 rfl Try.underlying46 rfl HM3.out ?_; intro w4 hrg0 fg0 hs0; have HG0 := Lib.hid hrg0; have HF0 := Lib.hid fg0; clear hrg0 fg0))
      go_frame
      obtain ⟨W3, hW3⟩ : ∃ W, W = w2.alloc (.cells #[.int .i64 s.why, .int .i64 s.at] 30) := ⟨_, rfl⟩
      obtain ⟨bs, hbs⟩ : ∃ b, b = w2.heap.size := ⟨_, rfl⟩
      obtain ⟨ri, hri⟩ : ∃ q, q = w2.heap.size + 1 := ⟨_, rfl⟩
      have f3 : Fr (fun _ => False) w2 W3 := by rw [hW3]; exact (Fr.refl _ _).alloc _
      have HS3 := Lib.hid (HS.out.fr f3)
      have HB3 := Lib.hid (HB.out.fr f3 id)
      have HK3 := Lib.hid (show Blk W3 bs #[.int .i64 s.why, .int .i64 s.at] 30 by rw [hW3]; exact Blk.at_new hbs)
      have HZ := Lib.hid (show W3.heap.size = ri ∧ bo < ri ∧ bq < ri ∧ bs < ri ∧ bs ≠ bq ∧ bs ≠ bo from ⟨by rw [hW3, hri]; simp, by have := HM.out.lt; omega, by have := HB.out.lt; omega, by omega, by have := HB.out.lt; omega, by have := HM.out.lt; omega⟩)
      have HF3' := Lib.hid (HFR.out.trans (f3.mono (fun _ _ h => h.elim)))
      have HSZ := Lib.hid (show W3.heap.size = w2.heap.size + 1 from by rw [hW3]; simp)
      simp only [← hW3] at HF0 HG0 HM3
      have hG := HG0.out
      rw [HSZ.out, ← hri] at hG
      have HG := Lib.hid hG
      rw [← hW3, HZ.out.1, ← hbs]
      clear HS HB HM HFR cx2 lx2 cq0 cq1 cq2 lq hlb hlk hW3 f3 hs0 HG0 hG hbs hri HSZ
      have cq0 := HB3.out.cell 0
      have cq1 := HB3.out.cell 1
      go_loopw [14, 15] (fun t14 _ wq => ∃ (c : Bool) (rem : List (Int × Value)), t14 = .bool c ∧ (c && rem.all (okK O who r)) = abv O who r lm ∧ (∀ p ∈ rem, p ∈ lm) ∧ Rng kint wq ri bo lm rem ∧ Fr (fun _ => False) W3 wq ∧ Blk wq bq #[.int .i64 who, .int .i64 r, .bool lt] 44) (fun _ _ wq => remN wq ri bo)
      case atStart => exact ⟨_, lm, rfl, rfl, fun _ h => h, HG.out, HF0.out, HB3.out.fr HF0.out id⟩
      case round =>
        obtain ⟨c, rem, rfl, hc, hsub, hrg, hfq, hbq⟩ := hrel
        have HC := Lib.hid hc
        have HSUB := Lib.hid hsub
        have HRG := Lib.hid hrg
        have HFQ := Lib.hid hfq
        have HBQ := Lib.hid hbq
        clear HG HF0 cq0 cq1 hc hsub hrg hfq hbq
        go_wp2_with (at_next; refine wpList_next_s rfl _ rfl rfl HRG.out ?_ ?_)
        focus
          intro hnil
          subst hnil
          have hcc : c = abv O who r lm := by have := HC.out; simpa using this
          have HCC := Lib.hid hcc
          have hfw := HFQ.out
          have cq0 := HBQ.out.cell 0
          have cq1 := HBQ.out.cell 1
          have cq2 := HBQ.out.cell 2
          have HS4 := Lib.hid (HS3.out.fr HFQ.out)
          have HK4 := Lib.hid (HK3.out.fr HFQ.out id)
          have HM4 := Lib.hid (HM3.out.fr HFQ.out id)
          have lq := HBQ.out.lt
          have HW4 := Lib.hid (show W3.heap.size ≤ wr.heap.size from HFQ.out.size)
          clear hcc hfw HC HSUB HRG
          go_upto_region 19 with fail
          obtain ⟨W5, hW5⟩ : ∃ W, W = wr.alloc (.cells #[.int .i64 0, .int .i64 0] 30) := ⟨_, rfl⟩
          obtain ⟨bw, hbw⟩ : ∃ b, b = wr.heap.size := ⟨_, rfl⟩
          have f5 : Fr (fun _ => False) wr W5 := by rw [hW5]; exact (Fr.refl _ _).alloc _
          have HS5 := Lib.hid (HS4.out.fr f5)
          have HB5 := Lib.hid (HBQ.out.fr f5 id)
          have HK5 := Lib.hid (HK4.out.fr f5 id)
          have HM5 := Lib.hid (HM4.out.fr f5 id)
          have HW5 := Lib.hid (show Blk W5 bw #[.int .i64 0, .int .i64 0] 30 by rw [hW5]; exact Blk.at_new hbw)
          have HZ5 := Lib.hid (show bo < bw ∧ bq < bw ∧ bs < bw ∧ bx < bw ∧ (∀ q, F' q → q < bw) ∧ w.heap.size ≤ bw from ⟨hbw ▸ HM4.out.lt, hbw ▸ HBQ.out.lt, hbw ▸ HK4.out.lt, hbw ▸ HS4.out.B.lt, fun q hq => hbw ▸ HS4.out.H.lt hq, hbw ▸ HS4.out.f.size⟩)
          rw [← hW5, ← hbw]
          clear hW5 hbw f5 HS4 HBQ HK4 HM4 HFQ HS3 HB3 HK3 HM3 cq0 cq1 cq2 lq
          have cq0 := HB5.out.cell 0
          have cq1 := HB5.out.cell 1
          have cq2 := HB5.out.cell 2
          obtain ⟨wb, hwb⟩ : ∃ wb, wb = decide (who < 0 ∨ (k : Int) ≤ who) := ⟨_, rfl⟩
          have HWB := Lib.hid hwb
          clear hwb
          go_cut [91] (fun t91 wx => t91 = .bool wb ∧ wx = W5)
          case first =>
            by_cases e1 : who < 0
            · have HE := Lib.hid e1
              go_wp2_with fail
              go_meet
              case rel => exact ⟨by rw [HWB.out, decide_eq_true (Or.inl HE.out)], rfl⟩
            · by_cases e2 : (k : Int) ≤ who
              · have HE := Lib.hid e2
                go_wp2_with fail
                go_meet
                case rel => exact ⟨by rw [HWB.out, decide_eq_true (Or.inr HE.out)], rfl⟩
              · have HE := Lib.hid (show ¬ (who < 0 ∨ (k : Int) ≤ who) by omega)
                go_wp2_with fail
                go_meet
                case rel => exact ⟨by rw [HWB.out, decide_eq_false HE.out], rfl⟩
          case rest =>
            obtain ⟨rfl, hwc⟩ := hcut
            subst hwc
            go_upto_if 91 with fail
            refine wp_last ?_
            go_cut [] (fun wx => ∃ lm', MapS kint wx bo lm' ∧ MapOk lm' O' ∧ tot L' k = lm'.length ∧ Blk wx bw #[.int .i64 s.why, .int .i64 s.at] 30 ∧ Fr (fun q => q = bo ∨ q = bw) wc wx)
            case first =>
              have hlw := HW5.out.lt
              have hfw := HW5.out.frozen
              have cw0 := HW5.out.cell 0
              have cw1 := HW5.out.cell 1
              rcases HD.out.sw HR.out.rk HR.out.ok HWB.out HCC.out HOH.out HOY.out with ⟨t1, d⟩ | ⟨t1, t2, t3, d⟩ | ⟨t1, t2, t3, t4, d⟩ | ⟨t1, t2, t3, t4, d⟩ | ⟨t1, t2, t3, d⟩ | ⟨t1, t2, t3, t4, d⟩ | ⟨t1, t2, t3, t4, d⟩
              all_goals have HDD := Lib.hid d
              all_goals clear d
              · as_aux_lemma =>
                subst t1
                go_wp2_with fail
                go_meet
                case rel =>
                  have e := rp_store HM5.out HW5.out HZ5.out.1 3 who
                  obtain ⟨d1, d2, d3, d4⟩ := HDD.out
                  rw [d1, d2, d3, d4]
                  exact ⟨lm, e.1, HR.out.ok, HR.out.tt, e.2.1, e.2.2⟩
              · as_aux_lemma =>
                subst t1 t2 t3
                go_wp2_with fail
                go_meet
                case rel =>
                  have e := rp_store HM5.out HW5.out HZ5.out.1 6 r
                  obtain ⟨d1, d2, d3, d4⟩ := HDD.out
                  rw [d1, d2, d3, d4]
                  exact ⟨lm, e.1, HR.out.ok, HR.out.tt, e.2.1, e.2.2⟩
              · as_aux_lemma =>
                subst t1 t2 t3
                go_wp2_with fail
                go_meet
                case rel =>
                  have e := rp_store HM5.out HW5.out HZ5.out.1 6 r
                  obtain ⟨d1, d2, d3, d4⟩ := HDD.out
                  rw [d1, d2, d3, d4]
                  exact ⟨lm, e.1, HR.out.ok, HR.out.tt, e.2.1, e.2.2⟩
              · as_aux_lemma =>
                subst t1 t2 t3
                go_wp2_with (refine wpList_delete_s rfl _ _ 46 _ rfl (key_int Try.underlying3) Try.underlying46 rfl HM5.out r rfl ?_; intro w6 M6 F6; have HM6 := Lib.hid M6; have HF6 := Lib.hid F6; clear M6 F6)
                go_meet
                case rel =>
                  obtain ⟨d1, d2, d3, d4, ho⟩ := HDD.out
                  rw [d1, d2, d3]
                  refine ⟨delA lm r, HM6.out, HR.out.ok.del r, ?_, HW5.out.fr HF6.out (by have := HZ5.out; omega), HF6.out.mono (fun _ _ h => .inl h)⟩
                  have e2 := del_len (lm := lm) (q := r) (v := kint who) (by rw [HR.out.ok.g, ho]; rfl)
                  have e3 := HR.out.tt
                  omega
              · as_aux_lemma =>
                subst t1 t2 t3
                go_wp2_with fail
                go_meet
                case rel =>
                  have e := rp_store HM5.out HW5.out HZ5.out.1 5 r
                  obtain ⟨d1, d2, d3, d4⟩ := HDD.out
                  rw [d1, d2, d3, d4]
                  exact ⟨lm, e.1, HR.out.ok, HR.out.tt, e.2.1, e.2.2⟩
              · as_aux_lemma =>
                subst t1 t2 t3 t4
                go_wp2_with fail
                go_meet
                case rel =>
                  have e := rp_store HM5.out HW5.out HZ5.out.1 6 r
                  obtain ⟨d1, d2, d3, d4⟩ := HDD.out
                  rw [d1, d2, d3, d4]
                  exact ⟨lm, e.1, HR.out.ok, HR.out.tt, e.2.1, e.2.2⟩
              · as_aux_lemma =>
                subst t1 t2 t3 t4
                go_wp2_with (at_mapUpdate; refine wpList_update_s rfl _ _ _ 46 rfl (key_int Try.underlying3) Try.underlying46 rfl HM5.out r (.int .i64 who) rfl rfl ?_; intro w6 M6 F6; have HM6 := Lib.hid M6; have HF6 := Lib.hid F6; clear M6 F6)
                go_meet
                case rel =>
                  obtain ⟨d1, d2, d3, d4, ho⟩ := HDD.out
                  rw [d1, d2, d3]
                  refine ⟨insA lm r (kint who), HM6.out, HR.out.ok.ins r who, ?_, HW5.out.fr HF6.out (by have := HZ5.out; omega), HF6.out.mono (fun _ _ h => .inl h)⟩
                  have e2 := ins_len (lm := lm) (q := r) (v := kint who) (by rw [HR.out.ok.g, ho]; rfl)
                  have e3 := HR.out.tt
                  omega
            case rest =>
              obtain ⟨W7, hW7⟩ : ∃ W, W = wc := ⟨wc, rfl⟩
              subst hW7
              obtain ⟨lm', hm6, hok, htt, hw6, hf6⟩ := hcut
              have e1 := HZ5.out
              have e2 := HZ.out
              have e3 := HF'.out
              have e4 := HR.out.d
              have HN := Lib.hid (show RpSt w x k bx bo (i + 1) L' O' F' lm' W7 from ⟨HS5.out.frS hf6 (fun q hq h => h.elim (fun h => e3.1 (h ▸ hq)) (fun h => by have := e1.2.2.2.2.1 q hq; omega)) (by omega) (fun q h => by omega), HD.out.rk HR.out.rk, hm6, hok, htt, HD.out.len HR.out.ln, e3.1, by omega, by omega⟩)
              have HB7 := Lib.hid (HB5.out.fr hf6 (by omega))
              have HK7 := Lib.hid (HK5.out.fr hf6 (by omega))
              have HW7 := Lib.hid hw6
              clear hm6 hok htt hw6 hf6 e1 e2 e3 e4 HB5 HK5 HM5 HW5 HS5 cq0 cq1 cq2 HCC HWB HW4 HOY HOH
              obtain ⟨si, hsi⟩ : ∃ q, q = s.is := ⟨_, rfl⟩
              obtain ⟨sw, hsw⟩ : ∃ q, q = s.why := ⟨_, rfl⟩
              obtain ⟨sa, hsa⟩ : ∃ q, q = s.at := ⟨_, rfl⟩
              have hcase := HD.out.is
              rw [← hsi, ← hsw, ← hsa] at hcase
              rw [← hsw, ← hsa] at HK7 HW7
              rw [← hsi]
              have cs0 := HK7.out.cell 0
              have cs1 := HK7.out.cell 1
              have cw0 := HW7.out.cell 0
              have cw1 := HW7.out.cell 1
              have HCS := Lib.hid hcase
              clear hsi hsw hsa hcase
              go_upto_region 29 with fail
              go_cut [146] (fun t146 wx => t146 = .bool false ∧ ∃ q, wx = W7.drewN q)
              case first =>
                rcases HCS.out with ⟨t1, t2, t3⟩ | ⟨t1, t2⟩
                · as_aux_lemma =>
                  subst t1 t2 t3
                  go_wp2_with fail
                  go_meet
                  case rel => exact ⟨rfl, 0, rfl⟩
                · as_aux_lemma =>
                  subst t1
                  go_wp2_with fail
                  go_meet
                  case rel => exact ⟨rfl, 0, rfl⟩
              case rest =>
                obtain ⟨rfl, q0, rfl⟩ := hcut
                have HN8 := Lib.hid (HN.out.fr (Fr.drewN0 W7 q0))
                have HB8 := Lib.hid (HB7.out.fr (Fr.drewN0 W7 q0) id)
                generalize W7.drewN q0 = W8 at *
                clear HN HB7 HK7 HW7 cs0 cs1 cw0 cw1 HCS
                have cq1 := HB8.out.cell 1
                have cx8 := HN8.out.s.B.cell 0
                have hlk := HN8.out.mp.toB.lookup (key_int Try.underlying3) Try.underlying46 r (.int .i64 0) zero_i64 true
                rw [HN8.out.ok.g r] at hlk
                go_upto_region 31 with fail
                go_cut [18, 19] (fun t18 t19 wx => wx = W8 ∧ ((∃ y, O' r = some y ∧ t18 = .int .i64 y ∧ t19 = .bool true) ∨ (O' r = none ∧ t18 = .int .i64 0 ∧ t19 = .bool false)))
                case first =>
                  cases ho : O' r with
                  | none =>
                    rw [ho] at hlk
                    simp only [Option.map_none, Option.getD_none, Option.isSome_none] at hlk
                    have HO := Lib.hid ho
                    clear ho
                    go_wp2_with fail
                    go_meet
                    case rel => exact ⟨rfl, .inr ⟨HO.out, rfl, rfl⟩⟩
                  | some y =>
                    rw [ho] at hlk
                    simp only [Option.map_some, Option.getD_some, Option.isSome_some] at hlk
                    have HO := Lib.hid ho
                    clear ho
                    go_wp2_with fail
                    go_meet
                    case rel => exact ⟨rfl, .inl ⟨y, HO.out, rfl, rfl⟩⟩
                case rest =>
                  clear hlk
                  obtain ⟨hwc, hc2⟩ := hcut
                  have hwc := hwc.symm
                  subst hwc
                  have HC2 := Lib.hid hc2
                  clear hc2
                  go_upto_region 32 with fail
                  go_cut [18, 19, 173] (fun _ _ t173 wx => t173 = .bool false ∧ wx = W8)
                  case first =>
                    rcases HC2.out with ⟨y, ho, rfl, rfl⟩ | ⟨ho, rfl, rfl⟩
                    · as_aux_lemma =>
                      have HO2 := rank_owner x k L' O' F' _ HN8.out.s.H r
                      rw [ho] at HO2
                      simp only [Option.getD_some] at HO2
                      have HO2 := Lib.hid HO2
                      clear ho
                      go_wp2_with (go_at_call 30; (with_reducible refine HO2.out.mono ?_); rintro e w9 ⟨rfl, rfl⟩)
                      go_meet
                      case rel => exact ⟨rfl, rfl⟩
                    · as_aux_lemma =>
                      have HO2 := rank_owner x k L' O' F' _ HN8.out.s.H r
                      rw [ho] at HO2
                      simp only [Option.getD_none] at HO2
                      have HO2 := Lib.hid HO2
                      clear ho
                      go_wp2_with (go_at_call 30; (with_reducible refine HO2.out.mono ?_); rintro e w9 ⟨rfl, rfl⟩)
                      go_meet
                      case rel => exact ⟨rfl, rfl⟩
                  case rest =>
                    obtain ⟨rfl, hwc⟩ := hcut
                    have hwc := hwc.symm
                    subst hwc
                    have HN9 := HN8
                    clear HN8 HB8 HC2 cq1 cx8
                    have htl := fun j (hj : j ≤ k) => tot_le HN9.out.ln (j := j) hj
                    have HTL := Lib.hid htl
                    clear htl
                    go_wp2_with fail
                    go_loopw [20, 21] (fun t20 t21 wq => ∃ j : Nat, j ≤ k ∧ t21 = .int .i64 j ∧ t20 = .int .i64 (tot L' j : Nat) ∧ RpSt w x k bx bo (i + 1) L' O' F' lm' wq) (fun _ t21 _ => (k - intOf t21).toNat)
                    case atStart => exact ⟨0, by omega, rfl, rfl, HN9.out⟩
                    case round =>
                      obtain ⟨j, hj, rfl, rfl, hn⟩ := hrel
                      have HN10 := Lib.hid hn
                      clear hn HN9
                      have htj := HTL.out j hj
                      have htj2 : tot L' j ≤ 5 * 61 := Nat.le_trans htj (Nat.mul_le_mul (by omega) (by omega))
                      by_cases hjk : j < k
                      · have hjk' : (j : Int) < k := by omega
                        as_aux_lemma =>
                          have HLI := Lib.hid (rank_list x k L' O' F' j _ HN10.out.s.H hjk)
                          have hlj := HN10.out.ln j hjk
                          have cx10 := HN10.out.s.B.cell 0
                          have htI : ((tot L' j : Nat) : Int) ≤ 305 := by omega
                          have hlI : ((L' j).length : Int) ≤ 61 := by omega
                          clear htj htj2
                          go_wp2_with (go_at_call 29; (with_reducible refine HLI.out.mono ?_); rintro e w11 ⟨u, rfl, O11, F11, G11⟩; obtain ⟨au, cu, rfl, _, _⟩ := O11.form; have HO11 := Lib.hid O11; have HF11 := Lib.hid F11; clear O11 F11 G11)
                          have HN11 := Lib.hid (HN10.out.fr HF11.out)
                          clear HN10 HLI cx10
                          go_loopw [188] (fun t188 wz => ∃ z : Nat, z ≤ (L' j).length ∧ t188 = .int .i64 z ∧ Fr (fun _ => False) w11 wz) (fun t188 _ => ((L' j).length - intOf t188).toNat)
                          case atStart => exact ⟨0, by omega, rfl, Fr.refl _ _⟩
                          case round =>
                            obtain ⟨z, hz, rfl, hfz⟩ := hrel
                            have HN12 := Lib.hid (HN11.out.fr hfz)
                            have HO12 := Lib.hid (HO11.out.fr hfz (fun _ _ => id))
                            have HFZ := Lib.hid hfz
                            clear hfz
                            by_cases hzl : z < (L' j).length
                            · have hzl' : (z : Int) < (L' j).length := by omega
                              obtain ⟨br, or_, cr, er, _, cj⟩ := HO12.out.rd.int hzl
                              have hown := HN12.out.rk.own j (L' j)[z] hjk (List.getElem_mem _)
                              have hlk := HN12.out.mp.toB.lookup (key_int Try.underlying3) Try.underlying46 (L' j)[z] (.int .i64 0) zero_i64 true
                              rw [HN12.out.ok.g, hown] at hlk
                              simp only [Option.map_some, Option.getD_some, Option.isSome_some] at hlk
                              have hho := rank_holds x k L' O' F' j _ HN12.out.s.H hjk (L' j)[z]
                              rw [decide_eq_true (List.getElem_mem _)] at hho
                              have HHO := Lib.hid hho
                              have cx12 := HN12.out.s.B.cell 0
                              clear hown hho
                              simp only [Value.slice.injEq] at er
                              obtain ⟨rfl, _, rfl⟩ := er
                              have hz0 : (0 : Int) ≤ z := by omega
                              rcases Nat.eq_zero_or_pos z with rfl | hzp
                              · generalize (L' j)[0] = rj at *
                                rw [Nat.add_zero] at cj
                                go_wp2_with (go_at_call 33; (with_reducible refine HHO.out.mono ?_); rintro e w13 ⟨rfl, rfl⟩)
                                refine ⟨⟨0 + 1, by omega, by go_num, HFZ.out⟩, by simp [intOf]; omega⟩
                              · obtain ⟨z1, rfl⟩ : ∃ z1, z = z1 + 1 := ⟨z - 1, by omega⟩
                                have hz1 : z1 < (L' j).length := by omega
                                obtain ⟨br2, or2, cr2, er2, _, cj2⟩ := HO12.out.rd.int hz1
                                simp only [Value.slice.injEq, Option.some.injEq, Addr.mk.injEq] at er2
                                obtain ⟨⟨rfl, rfl, _⟩, _, rfl⟩ := er2
                                have hlt := List.pairwise_iff_getElem.1 (HN12.out.rk.inc j hjk) z1 (z1 + 1) hz1 hzl (by omega)
                                generalize (L' j)[z1 + 1] = rj at *
                                generalize (L' j)[z1] = rp at *
                                have hge : decide (rj ≤ rp) = false := decide_eq_false (by omega)
                                have hz1' : (0 : Int) ≤ (z1 : Int) := by omega
                                have hz2' : (z1 : Int) < (L' j).length := by omega
                                have hz3' : (0 : Int) < (z1 : Int) + 1 := by omega
                                go_wp2_with (go_at_call 33; (with_reducible refine HHO.out.mono ?_); rintro e w13 ⟨rfl, rfl⟩)
                                refine ⟨⟨z1 + 1 + 1, by omega, by go_num, HFZ.out⟩, by simp [intOf]; omega⟩
                            · have hzl' : ¬ (z : Int) < (L' j).length := by omega
                              go_wp2_with fail
                              refine ⟨⟨j + 1, by omega, by go_num, ?_, HN12.out⟩, by simp [intOf]; omega⟩
                              simp [tot]
                      · have hjk' : ¬ (j : Int) < k := by omega
                        as_aux_lemma =>
                          obtain rfl : j = k := by omega
                          have hlen := HN10.out.mp.len Try.underlying46 3
                          rw [← HN10.out.tt] at hlen
                          go_wp2_with fail
                          exact ⟨⟨i + 1, L', O', F', lm', by omega, by omega, by go_num, HN10.out⟩, by simp [intOf]; omega⟩
        intro q v rem' w5 hp hrg1 hf1 hs1 hen
        obtain ⟨y, hy, hv⟩ := HR.out.ok.val (HSUB.out _ (hp.symm.subset (List.mem_cons_self ..)))
        simp only at hy hv
        subst hv
        have hall : rem.all (okK O who r) = (okK O who r (q, kint y) && rem'.all (okK O who r)) := by rw [hp.all_eq]; rfl
        have HB5 := Lib.hid (HBQ.out.fr hf1 (fun e => by have := HZ.out; omega))
        have cq0 := HB5.out.cell 0
        have cq1 := HB5.out.cell 1
        have HN := Lib.hid (show (∀ p ∈ rem', p ∈ lm) ∧ Rng kint w5 ri bo lm rem' ∧ Fr (fun _ => False) W3 w5 ∧ Blk w5 bq #[.int .i64 who, .int .i64 r, .bool lt] 44 ∧ remN w5 ri bo < remN wr ri bo from
          ⟨fun p h => HSUB.out p (hp.symm.subset (List.mem_cons_of_mem _ h)), hrg1, HFQ.out.step hf1 (fun j hj e => by have := HZ.out; omega), HB5.out, by rw [hrg1.remN_eq, HRG.out.remN_eq, hp.length_eq]; simp⟩)
        have HC2 := Lib.hid (HC.out)
        have HAL := Lib.hid hall
        clear hp hrg1 hf1 hs1 hall
        cases c with
        | false =>
          as_aux_lemma =>
            clear hy
            go_wp2_with fail
            refine ⟨⟨false, rem', rfl, ?_, HN.out.1, HN.out.2.1, HN.out.2.2.1, HN.out.2.2.2.1⟩, HN.out.2.2.2.2⟩
            have := HC2.out
            simpa using this
        | true =>
          as_aux_lemma =>
            by_cases e1 : y = who
            · by_cases e2 : q < r
              · have e3 : okK O who r (q, kint y) = true := by unfold okK; simp [e2]
                have HE := Lib.hid e3
                have t1 : (y != who) = false := by simp [e1]
                have t2 : decide (q < r) = true := decide_eq_true e2
                clear hy e1 e3
                go_wp2_with fail
                refine ⟨⟨true, rem', rfl, ?_, HN.out.1, HN.out.2.1, HN.out.2.2.1, HN.out.2.2.2.1⟩, HN.out.2.2.2.2⟩
                have := HC2.out
                rw [HAL.out, HE.out] at this
                simpa using this
              · have e3 : okK O who r (q, kint y) = false := by unfold okK; simp [hy, e1, e2]
                have HE := Lib.hid e3
                have t1 : (y != who) = false := by simp [e1]
                have t2 : decide (q < r) = false := decide_eq_false e2
                clear hy e1 e3
                go_wp2_with fail
                refine ⟨⟨false, rem', rfl, ?_, HN.out.1, HN.out.2.1, HN.out.2.2.1, HN.out.2.2.2.1⟩, HN.out.2.2.2.2⟩
                have := HC2.out
                rw [HAL.out, HE.out] at this
                simpa using this
            · have e3 : okK O who r (q, kint y) = true := by unfold okK; simp [hy, e1]
              have HE := Lib.hid e3
              have t1 : (y != who) = true := by simp [e1]
              clear hy e3
              go_wp2_with fail
              refine ⟨⟨true, rem', rfl, ?_, HN.out.1, HN.out.2.1, HN.out.2.2.1, HN.out.2.2.2.1⟩, HN.out.2.2.2.2⟩
              have := HC2.out
              rw [HAL.out, HE.out] at this
              simpa using this
    · have hf := hs.f
      have HF := Lib.hid hf
      clear hf
      as_aux_lemma =>
        rcases (show ¬ (i : Int) < len ∨ ((i : Int) < len ∧ ¬ (i : Int) < 60) by omega) with hx | ⟨hx, hy⟩
        all_goals
          clear hr
          go_wp2_with fail
          refine (guard_idle 34 _ _ (.stop 3 0) (fun w => by simp [go_sem]) (rankPlays2 _)).mono ?_
          rintro e w5 ⟨rfl, f5⟩
          have HF5 := Lib.hid f5
          simp only [Stp.why_s, Stp.at_s, Stp.is_s]
          clear f5
          go_wp2_with (go_at_call 4; (with_reducible refine (HRR.out _).mono ?_); rintro e w8 ⟨rfl, f8⟩; have HF8 := Lib.hid f8; clear f8)
          go_ret
          exact ⟨rfl, (HF.out.trans ((HF5.out.alloc _).trans HF8.out)).below⟩
end Go.Proofs.Ytoifefcbegdjdaa
