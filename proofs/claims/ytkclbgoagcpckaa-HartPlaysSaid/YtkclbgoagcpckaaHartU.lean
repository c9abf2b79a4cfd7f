import Derived.Test.YtkclbgoagcpckaaHartV
import Derived.Deep.Cut
import Derived.Deep.CutRange
import Derived.Deep.DeepCutAuto
import Derived.Deep.RegionHeld3
import Derived.Deep.QuietTactic
import Derived.BigQuiet
namespace Go.Proofs.Ytkclbgoagcpckaa
open Go.RowKit

/-- the closure that makes the harts -/
theorem hartPlays1_ok (n : Nat) (hn : 1 ≤ n ∧ n ≤ 8) (bn bx : Nat) (w : World) (Bn : Blk w bn #[.int .i64 n] 3) (Bx : Blk w bx #[.pointer none] 45) :
    Calls Try.prog 34 #[.pointer (some ⟨bn, 0, none⟩), .pointer (some ⟨bx, 0, none⟩)] w fun e w' => Tame .ok e ∧ Fr (fun k => k = bx) w w' ∧ ∃ x g, HartsB w' x g n (fun _ => ⟨true, false, 0, 0⟩) ∧ Blk w' bx #[.pointer (some ⟨x, 0, none⟩)] 45 ∧ w.heap.size ≤ x ∧ w.heap.size ≤ g := by
  have n0 := Bn.cell 0
  have HC := Lib.hid (hart_new n hn w)
  have HX := Lib.hid Bx
  have AFT : Hid (∀ w', Fr (fun _ => False) w w' → bx < w'.heap.size ∧ (∀ q, w'.frozen? ⟨bx, q, none⟩ = false) ∧ w'.cell? ⟨bx, 0, none⟩ = some (.pointer none)) := fun w' f => by
    have a := Bx.fr f id
    exact ⟨a.lt, a.frozen, a.cell 0⟩
  clear Bn Bx hn
  go_enter Try.func34, Try.ntmps34
  go_wp2_with (go_at_call 23; (with_reducible refine HC.out.mono ?_); rintro e w' ⟨rfl, f, H'⟩; obtain ⟨k0, k1, k2⟩ := AFT.out _ f; have HF := Lib.hid f; have HH := Lib.hid H'; clear f H')
  go_end0
  have hl := HX.out.lt
  refine ⟨⟨_, rfl⟩, (HF.out.mono (T := fun k => k = bx) (fun _ _ h => h.elim)).setCell (p := ⟨bx, 0, none⟩) (fun _ => rfl) _, _, _, HH.out.fr (Fr.set1 _ _ _ _) (by omega) (by omega), (HX.out.fr HF.out id).set 0 _, by omega, by omega⟩

theorem four_new (W : World) (o0 o1 o2 o3 : Obj) : ((((W.alloc o0).alloc o1).alloc o2).alloc o3).drew.heap[W.heap.size]? = some o0 ∧ ((((W.alloc o0).alloc o1).alloc o2).alloc o3).drew.heap[W.heap.size + 1]? = some o1 ∧
    ((((W.alloc o0).alloc o1).alloc o2).alloc o3).drew.heap[W.heap.size + 1 + 1]? = some o2 ∧ ((((W.alloc o0).alloc o1).alloc o2).alloc o3).drew.heap[W.heap.size + 1 + 1 + 1]? = some o3 ∧ Fr (fun _ => False) W ((((W.alloc o0).alloc o1).alloc o2).alloc o3).drew := by
  have nw : ∀ (W : World) (o : Obj), (W.alloc o).heap[W.heap.size]? = some o := fun W o => by
    show (W.heap.push o)[W.heap.size]? = _
    simp
  have sz : ∀ (W : World) (o : Obj), (W.alloc o).heap.size = W.heap.size + 1 := fun W o => by simp
  refine ⟨?_, ?_, ?_, ?_, (((((Fr.refl _ _).alloc _).alloc _).alloc _).alloc _).drew⟩
  · exact (Below.heap_alloc _ _ _ (by simp; omega)).trans ((Below.heap_alloc _ _ _ (by simp; omega)).trans ((Below.heap_alloc _ _ _ (by simp)).trans (nw W o0)))
  · exact (Below.heap_alloc _ _ _ (by simp)).trans ((Below.heap_alloc _ _ _ (by simp)).trans (by have := nw (W.alloc o0) o1; rwa [sz] at this))
  · exact (Below.heap_alloc _ _ _ (by simp)).trans (by have := nw ((W.alloc o0).alloc o1) o2; rwa [sz, sz] at this)
  · have := nw (((W.alloc o0).alloc o1).alloc o2) o3
    rw [sz, sz, sz] at this
    exact this

theorem arr_of {W : World} {b n : Nat} {z : Value} {t : TypeId} (h : W.heap[b]? = some (.cells (madeCells #[z] n) t)) : Arr W b n (fun _ => z) t := by
  obtain ⟨c, hc, h1, h2⟩ := Arr.at_new (w := W) (t := t) z n rfl
  have hb := Blk.new W (madeCells #[z] n) t
  unfold Blk at hc hb
  rw [hb] at hc
  simp only [Option.some.injEq, Obj.cells.injEq] at hc
  exact ⟨_, h, by rw [hc.1]; exact h1, fun i hi => by rw [hc.1]; exact h2 i hi⟩
theorem rec_of {W : World} {b n k : Nat} {z : Array Value} {t : TypeId} (hz : z.size = k) (h : W.heap[b]? = some (.cells (madeCells z (n * k)) t)) : Rec W b n k (fun _ j => z[j]!) t := by
  obtain ⟨c, hc, h1, h2⟩ := Rec.at_new (w := W) (t := t) z n k hz rfl
  have hb := Blk.new W (madeCells z (n * k)) t
  unfold Blk at hc hb
  rw [hb] at hc
  simp only [Option.some.injEq, Obj.cells.injEq] at hc
  exact ⟨_, h, by rw [hc.1]; exact h1, fun i j hi hj => by rw [hc.1]; exact h2 i j hi hj⟩
theorem info_row : (Try.prog.info? 54).map (fun i => (i.zero, i.size, i.bytes)) = some (some (.agg #[.bool false, .bool false, .bool false, .bool false, .bool false, .bool false, .bool false, .bool false]), 8, 8) := by kernel_rfl
theorem made_row (n : Nat) (h : n ≤ 100) (w : World) :
    (Instr.makeSlice 58 (.int .i64 (n : Int)) (.int .i64 (n : Int))).run Try.prog w = .ok (.slice (some ⟨w.heap.size, 0, none⟩) n n) (w.alloc (.cells (madeCells #[.bool false, .bool false, .bool false, .bool false, .bool false, .bool false, .bool false, .bool false] (n * 8)) 54)) :=
  madek _ _ _ _ 8 8 Try.underlying58 info_row n (by omega) (by omega) w
theorem made_bools (n : Nat) (h : n ≤ 1000000) (w : World) :
    (Instr.makeSlice 57 (.int .i64 (n : Int)) (.int .i64 (n : Int))).run Try.prog w = .ok (.slice (some ⟨w.heap.size, 0, none⟩) n n) (w.alloc (.cells (madeCells #[.bool false] n) 4)) :=
  made1 _ _ _ _ 1 Try.underlying57 info_bool' rfl n (by omega) (by omega) w

theorem keep_cell {w w' : World} (f : Fr (fun _ => False) w w') {b o : Nat} {u : Value} (hb : b < w.heap.size) (h : w.cell? ⟨b, o, none⟩ = some u) : w'.cell? ⟨b, o, none⟩ = some u := (World.cell?_of_block (f.block b hb id)).trans h

theorem wp_last {P : Program} {c : Code} {K : Act → World → Prop} {Q : Exit → Act → World → Prop} {id : Nat} {a : Act} {w : World} (h : c.wp P (Exit.then K (Exit.inBlock id (Exit.then K Q))) a w) : c.wp P (Exit.inBlock id (Exit.then K Q)) a w :=
  Code.wp_mono (fun e a w h => by cases e <;> exact h) h
set_option maxHeartbeats 8000000 in
set_option maxRecDepth 100000 in
theorem hartPlays_walk (n : Int) (a : Option Addr) (len cap : Nat) (V : Nat → Nat → Value) (w : World) (wf : (Lit.int .i64 n).wf = true) (s : IsSl [.int .i64, .int .i64, .int .i64, .bool] w a len cap V) :
    Calls Try.prog 11 #[.int .i64 n, .slice a len cap] w fun e w' => e = .returned (.bool true) ∧ Below w.heap.size w w' := by
  have hmf : ∀ (fn : Fn) (first cap : Array Value) (w : World), (Instr.makeFunc fn first cap).run Try.prog w = .ok (.func fn first cap) w := fun _ _ _ _ => rfl
  go_enter Try.func11, Try.ntmps11
  go_wp2_with fail
  obtain ⟨W1, hW1⟩ : ∃ W, W = (w.alloc (.cells #[.int .i64 n] 3)).alloc (.cells #[.pointer none] 45) := ⟨_, rfl⟩
  obtain ⟨bn, hbn⟩ : ∃ b, b = w.heap.size := ⟨_, rfl⟩
  obtain ⟨bx, hbx⟩ : ∃ b, b = w.heap.size + 1 := ⟨_, rfl⟩
  rw [← hW1, ← hbx, ← hbn]
  have fW : Fr (fun _ => False) w W1 := by rw [hW1]; exact ((Fr.refl _ _).alloc _).alloc _
  have hBn : Blk W1 bn #[.int .i64 n] 3 := by rw [hW1]; exact (Blk.at_new hbn).alloc _
  have hBx : Blk W1 bx #[.pointer none] 45 := by rw [hW1]; exact Blk.at_new (by rw [hbx]; simp)
  have gf := gworld_fr W1 (fun _ => False)
  have HRR := Lib.hid hartRuns_any
  by_cases hn : n < 1 ∨ 8 < n
  · refine (guard_idle 34 _ _ (.stop 3 n) (fun w => by simp [go_sem]) (hartPlays1_bad n hn bn bx _ (hBn.fr gf id))).mono ?_
    rintro e w5 ⟨rfl, f5⟩
    simp only [Stp.why_s, Stp.at_s, Stp.is_s]
    have c0 := (hBn.fr f5 id).cell 0
    have lb := (hBn.fr f5 id).lt
    have HF := Lib.hid (fW.trans f5)
    clear fW f5 hBn hBx gf hW1 hbn hbx
    rcases (show n < 1 ∨ (¬ n < 1 ∧ 8 < n) by omega) with h | ⟨h, h2⟩
    all_goals
      as_aux_lemma =>
        clear hn
        go_wp2_with (go_at_call 8; (with_reducible refine (HRR.out _).mono ?_); rintro e w8 ⟨rfl, f8⟩; have HF8 := Lib.hid f8; clear f8)
        go_ret
        exact ⟨rfl, (HF.out.trans (((Fr.refl (fun _ => False) _).alloc _).trans HF8.out)).below⟩
  · obtain ⟨N, rfl⟩ : ∃ N : Nat, n = N := ⟨n.toNat, by omega⟩
    have hN : 1 ≤ N ∧ N ≤ 8 := by omega
    refine (guard_does 34 _ _ .ok (fun k => k = bx) (fun w' => ∃ x g, HartsB w' x g N (fun _ => ⟨true, false, 0, 0⟩) ∧ Blk w' bx #[.pointer (some ⟨x, 0, none⟩)] 45 ∧ (gworld W1).heap.size ≤ x ∧ (gworld W1).heap.size ≤ g) (fun k hk => by have := hBx.lt; omega) (fun w => by simp [go_sem])
      (hartPlays1_ok N hN bn bx _ (hBn.fr gf id) (hBx.fr gf id))).mono ?_
    rintro e w5 ⟨rfl, f5, w4, ⟨x, g, h4, hx4, hz1, hz2⟩, f6, f7⟩
    rw [gworld_size] at hz1 hz2
    simp only [Stp.why_o, Stp.at_o, Stp.is_o]
    have hlt := hBx.lt
    have hltn := hBn.lt
    have nbx : bn ≠ bx := hBn.ne hBx (.inr (by decide))
    have hz5 := f5.size
    have Bn5 := hBn.fr f5 nbx
    have H5 := h4.fr f7 (by omega) (by omega)
    have Bx5 := hx4.fr f7 (by omega)
    have fw5 : Fr (fun _ => False) w w5 := fW.step f5 (fun k hk e => by omega)
    obtain ⟨W6, hW6⟩ : ∃ W, W = w5.alloc (.cells #[.int .i64 0, .int .i64 0] 40) := ⟨_, rfl⟩
    have f6' : Fr (fun _ => False) w5 W6 := by rw [hW6]; exact (Fr.refl _ _).alloc _
    have HB6 := Lib.hid (Bn5.fr f6' id)
    have HX6 := Lib.hid (Bx5.fr f6' id)
    have HH6 := Lib.hid (H5.fr f6' id id)
    have HF6 := Lib.hid (fw5.trans f6')
    have HZ6 := Lib.hid (show bn < w.heap.size + 2 ∧ bx < w.heap.size + 2 ∧ w.heap.size ≤ bn ∧ w.heap.size ≤ bx ∧ w.heap.size ≤ x ∧ w.heap.size ≤ g ∧ bx ≠ x ∧ bx ≠ g ∧ bn ≠ x ∧ bn ≠ g from by have := fW.size; exact ⟨by omega, by omega, by omega, by omega, by omega, by omega, by omega, by omega, by omega, by omega⟩)
    have b0 := Bn5.cell 0
    have b1 := Bn5.lt
    have x0 := Bx5.cell 0
    have x1 := Bx5.lt
    have hn1 : ¬ (N : Int) < 1 := by omega
    have hn8 : (N : Int) ≤ 8 := by omega
    clear hlt hltn nbx hz5 Bn5 H5 Bx5 fw5 f6' f5 f6 f7 h4 hx4 hz1 hz2 fW hBn hBx gf hW1 hbn hbx
    go_upto_region 7 with fail
    rw [← hW6]
    have HW6 := Lib.hid hW6
    have c6 := HB6.out.cell 0
    have l6 := HB6.out.lt
    have hmk1 := made_bools N (by omega)
    have hmk2 := made_int N (by omega)
    have hmk3 := made_row N (by omega)
    clear b0 b1 x0 x1 hW6
    go_cut [8, 9, 10, 11] (fun t8 t9 t10 t11 wx => ∃ bo bw bs bm, t8 = .slice (some ⟨bo, 0, none⟩) N N ∧ t9 = .slice (some ⟨bw, 0, none⟩) N N ∧ t10 = .slice (some ⟨bs, 0, none⟩) N N ∧ t11 = .slice (some ⟨bm, 0, none⟩) N N ∧
      HBk bo bw bs bm N (fun _ => false) (fun _ => false) (fun _ => 0) (fun _ _ => false) wx ∧ Fr (fun _ => False) W6 wx ∧ [bo, bw, bs, bm].Nodup ∧ W6.heap.size ≤ bo ∧ W6.heap.size ≤ bw ∧ W6.heap.size ≤ bs ∧ W6.heap.size ≤ bm)
    case first =>
      as_aux_lemma =>
        go_region_held3 (fun w' => w'.cell? ⟨bn, 0, none⟩ = some (.int .i64 N)) (first | assumption | exact keep_cell (by first | exact ((Fr.refl _ _).alloc _).drew | exact (((Fr.refl _ _).alloc _).alloc _).drew | exact ((((Fr.refl _ _).alloc _).alloc _).alloc _).drew | exact (((((Fr.refl _ _).alloc _).alloc _).alloc _).alloc _).drew | exact ((Fr.refl _ _).alloc _) | exact (((Fr.refl _ _).alloc _).alloc _) | exact ((((Fr.refl _ _).alloc _).alloc _).alloc _) | exact (((((Fr.refl _ _).alloc _).alloc _).alloc _).alloc _)) l6 c6) (fail)
        all_goals
          as_aux_lemma =>
          go_wp2_with fail
          go_meet
          refine ⟨_, _, _, _, rfl, rfl, rfl, rfl, ⟨?_, ?_, ?_, ?_⟩, ?_, by simp <;> omega, by omega, by omega, by omega, by omega⟩
          · first | exact arr_of (four_new W6 _ _ _ _).1 | exact arr_of (four_new W6 _ _ _ _).2.1 | exact arr_of (four_new W6 _ _ _ _).2.2.1 | exact arr_of (four_new W6 _ _ _ _).2.2.2.1
          · first | exact arr_of (four_new W6 _ _ _ _).1 | exact arr_of (four_new W6 _ _ _ _).2.1 | exact arr_of (four_new W6 _ _ _ _).2.2.1 | exact arr_of (four_new W6 _ _ _ _).2.2.2.1
          · first | exact arr_of (four_new W6 _ _ _ _).1 | exact arr_of (four_new W6 _ _ _ _).2.1 | exact arr_of (four_new W6 _ _ _ _).2.2.1 | exact arr_of (four_new W6 _ _ _ _).2.2.2.1
          · refine Rec.congr (f := fun _ j => #[Value.bool false, .bool false, .bool false, .bool false, .bool false, .bool false, .bool false, .bool false][j]!) ?_ (fun i j _ hj => by match j, hj with | 0, _ => rfl | 1, _ => rfl | 2, _ => rfl | 3, _ => rfl | 4, _ => rfl | 5, _ => rfl | 6, _ => rfl | 7, _ => rfl)
            first | exact rec_of rfl (four_new W6 _ _ _ _).1 | exact rec_of rfl (four_new W6 _ _ _ _).2.1 | exact rec_of rfl (four_new W6 _ _ _ _).2.2.1 | exact rec_of rfl (four_new W6 _ _ _ _).2.2.2.1
          · exact (four_new W6 _ _ _ _).2.2.2.2
    case rest =>
      as_aux_lemma =>
      obtain ⟨bo, bw, bs, bm, rfl, rfl, rfl, rfl, hbk, hf7, nd, z0, z1, z2, z3⟩ := hcut
      obtain ⟨K, H, M, B, hA⟩ := AsksH.of s
      have HA := Lib.hid hA
      have HND := Lib.hid nd
      have HF7 := Lib.hid (HF6.out.trans hf7)
      have HN7 := Lib.hid (HB6.out.fr hf7 id)
      have HX7 := Lib.hid (HX6.out.fr hf7 id)
      have HH7 := Lib.hid (HH6.out.fr hf7 id id)
      have HDS := Lib.hid (show (∀ y, y ∈ [bo, bw, bs, bm] → y ≠ bn ∧ y ≠ bx ∧ y ≠ x ∧ y ≠ g ∧ w.heap.size ≤ y) ∧ bx ≠ x ∧ bx ≠ g ∧ bn ≠ x ∧ bn ≠ g ∧ x ≠ g ∧ w.heap.size ≤ bn ∧ w.heap.size ≤ bx ∧ w.heap.size ≤ x ∧ w.heap.size ≤ g from by
        obtain ⟨q0, q1, q2, q3, q4, q5, q6, q7, q8, q9⟩ := HZ6.out
        have e1 := HX6.out.lt
        have e2 := HH6.out.h.lt
        have e3 := HH6.out.a.lt
        have e4 := HF6.out.size
        have e5 := HH6.out.ne
        refine ⟨fun y hy => ?_, q6, q7, q8, q9, fun e => e5 e.symm, q2, q3, q4, q5⟩
        simp at hy
        rcases hy with rfl | rfl | rfl | rfl <;> exact ⟨by omega, by omega, by omega, by omega, by omega⟩)
      have HB7 := Lib.hid hbk
      clear s hA nd hf7 hbk z0 z1 z2 z3 HB6 HX6 HH6 HF6 HZ6 HW6 c6 l6 hmk1 hmk2 hmk3
      go_wp2_with fail
      go_loopw [67] (fun t67 wr => ∃ k : Nat, k ≤ N ∧ t67 = .int .i64 k ∧ HBk bo bw bs bm N (fun j => decide (j < k)) (fun _ => false) (fun _ => 0) (fun _ _ => false) wr ∧ Fr (fun y => y = bo) wc wr) (fun t67 _ => (N - intOf t67).toNat)
      case atStart => exact ⟨0, by omega, rfl, by simpa using HB7.out, Fr.refl _ _⟩
      case round =>
        obtain ⟨k, hk, rfl, hb, hf⟩ := hrel
        have HB := Lib.hid hb
        have HF := Lib.hid hf
        have lo := hb.o.lt
        have fo := hb.o.frozen
        have hk0 : (0 : Int) ≤ k := by omega
        by_cases hlt : k < N
        · as_aux_lemma =>
          have hlt' : (k : Int) < N := by omega
          have co := hb.o.cell hlt
          clear hb hf
          go_wp2_with fail
          exact ⟨⟨k + 1, by omega, by go_num, on_step k ▸ HB.out.setO HND.out k true, HF.out.setCell (fun _ => rfl) _⟩, by simp [intOf]; omega⟩
        · obtain rfl : k = N := by omega
          have HST := Lib.hid (show HartRel w bn bx bo bw bs bm x g k len (.int .i64 (0 : Nat)) wr from by
            obtain ⟨q, q1, q2, q3, q4, q5, q6, q7, q8, q9⟩ := HDS.out
            obtain ⟨o1, o2, o3, o4, o5⟩ := q bo (by simp)
            exact ⟨0, _, _, _, _, _, by omega, by omega, rfl, HH7.out.fr hf (fun e => o3 e.symm) (fun e => o4 e.symm), hb, HRel.start k, HN7.out.fr hf (fun e => o1 e.symm), HX7.out.fr hf (fun e => o2 e.symm), HF7.out.step hf (fun i hi e => by omega)⟩)
          clear hb hf lo fo HB HF HB7 HN7 HX7 HH7 HF7
          go_wp2_with fail
          go_loopw [13] (fun t13 wr => HartRel w bn bx bo bw bs bm x g k len t13 wr) (fun t13 _ => (50 - intOf t13).toNat)
          case atStart => exact HST.out
          case round =>
            as_aux_lemma =>
            obtain ⟨i, F, on, wa, ne, ma, hi, hil, rfl, hH, hB, hR, hBn, hBx, hF⟩ := hrel
            clear HST
            have HH := Lib.hid hH
            have HB := Lib.hid hB
            have HR := Lib.hid hR
            have HBn := Lib.hid hBn
            have HBx := Lib.hid hBx
            have HF := Lib.hid hF
            have c2 := hBn.cell 0
            have c5 := hBx.cell 0
            have hi0 : (0 : Int) ≤ i := by omega
            clear hH hB hR hBn hBx hF
            by_cases hr : i < len ∧ i < 50
            · obtain ⟨hr1, hr2⟩ := hr
              have hr1' : (i : Int) < len := by omega
              have hr2' : (i : Int) < 50 := by omega
              rcases HA.out.at HF.out with h | ⟨b, off, rfl, hbw, hcl⟩
              · omega
              obtain ⟨e0, e1, e2, e3⟩ := hcl i hr1
              obtain ⟨kind, hkd⟩ : ∃ q, q = K i := ⟨_, rfl⟩
              obtain ⟨h, hh⟩ : ∃ q, q = H i := ⟨_, rfl⟩
              obtain ⟨m, hm⟩ : ∃ q, q = M i := ⟨_, rfl⟩
              obtain ⟨qon, hqon⟩ : ∃ q, q = B i := ⟨_, rfl⟩
              rw [← hkd] at e0
              rw [← hh] at e1
              rw [← hm] at e2
              rw [← hqon] at e3
              obtain ⟨st, got, took, F', hD⟩ := HD.any k F kind h m qon
              have HDD := Lib.hid hD
              clear hkd hh hm hqon hcl hD
              go_wp2_with fail
              obtain ⟨WG, hWG⟩ : ∃ W, W = ((wr.alloc (.cells #[.int .i64 kind, .int .i64 h, .int .i64 m, .bool qon] 60)).alloc (.cells #[.int .i64 0] 3)).alloc (.cells #[.bool false] 4) := ⟨_, rfl⟩
              rw [← hWG]
              obtain ⟨bq, hbq⟩ : ∃ b, b = wr.heap.size := ⟨_, rfl⟩
              obtain ⟨bg, hbg⟩ : ∃ b, b = wr.heap.size + 1 := ⟨_, rfl⟩
              obtain ⟨bt, hbt⟩ : ∃ b, b = wr.heap.size + 1 + 1 := ⟨_, rfl⟩
              have fG : Fr (fun _ => False) wr WG := by rw [hWG]; exact (((Fr.refl _ _).alloc _).alloc _).alloc _
              have hWGz : WG.heap.size = wr.heap.size + 3 := by rw [hWG]; simp
              have hBq : Blk WG bq #[.int .i64 kind, .int .i64 h, .int .i64 m, .bool qon] 60 := by rw [hWG]; exact ((Blk.at_new hbq).alloc _).alloc _
              have hBg : Blk WG bg #[.int .i64 0] 3 := by rw [hWG]; exact (Blk.at_new (by rw [hbg]; simp)).alloc _
              have hBt : Blk WG bt #[.bool false] 4 := by rw [hWG]; exact Blk.at_new (by rw [hbt]; simp)
              have gf := gworld_fr WG (fun _ => False)
              have lx := HH.out.h.lt
              have lg := HH.out.a.lt
              have lbx := HBx.out.lt
              have lbn := HBn.out.lt
              have ll : ∀ y, y ∈ [bo, bw, bs, bm] → y < wr.heap.size := fun y hy => by
                simp at hy
                rcases hy with rfl | rfl | rfl | rfl
                · exact HB.out.o.lt
                · exact HB.out.k.lt
                · exact HB.out.s.lt
                · exact HB.out.m.lt
              rw [← hbt, ← hbg, ← hbq]
              refine (guard_does 35 _ WG st (fun y => y = g ∨ y = bg ∨ y = bt) (fun w' => HartsB w' x g k F' ∧ Blk w' bg #[.int .i64 got] 3 ∧ Blk w' bt #[.bool took] 4) (fun y hy => by omega) (fun w => by simp [go_sem])
                ((hartPlays2 (HH.out.fr (fG.trans gf) id id) (hBq.fr gf id) (HBx.out.fr (fG.trans gf) id) (hBg.fr gf id) (hBt.fr gf id) HDD.out (fun j hj => by obtain ⟨_, _, _, _, a, b⟩ := HR.out j hj; exact ⟨by omega, b⟩) (by omega) (by omega)).mono fun e w' h => ⟨h.1, h.2.1, h.2.2⟩)).mono ?_
              rintro e w2 ⟨rfl, fg, w3, ⟨hH3, hG3, hT3⟩, fg2, fg3⟩
              rw [hWGz] at fg3
              obtain ⟨W5, hW5⟩ : ∃ W, W = (w2.alloc (.cells #[.int .i64 st.why, .int .i64 st.at] 40)).alloc (.cells #[.int .i64 0, .int .i64 0] 40) := ⟨_, rfl⟩
              obtain ⟨bp, hbp⟩ : ∃ b, b = w2.heap.size := ⟨_, rfl⟩
              obtain ⟨bv, hbv⟩ : ∃ b, b = w2.heap.size + 1 := ⟨_, rfl⟩
              have f5 : Fr (fun _ => False) w2 W5 := by rw [hW5]; exact ((Fr.refl _ _).alloc _).alloc _
              have hz2 : wr.heap.size + 3 ≤ w2.heap.size := by have := fg.size; omega
              obtain ⟨dd, d1, d2, d3, d4, d5, d6, d7, d8, d9⟩ := HDS.out
              have HH5 := Lib.hid ((hH3.fr fg3 (by omega) (by omega)).fr f5 id id)
              have HG5 := Lib.hid ((hG3.fr fg3 (by omega)).fr f5 id)
              have HT5 := Lib.hid ((hT3.fr fg3 (by omega)).fr f5 id)
              have HB5 := Lib.hid (((HB.out.fr fG ⟨id, id, id, id⟩).fr fg (by
                have a1 := dd bo (by simp)
                have a2 := dd bw (by simp)
                have a3 := dd bs (by simp)
                have a4 := dd bm (by simp)
                have b1 := ll bo (by simp)
                have b2 := ll bw (by simp)
                have b3 := ll bs (by simp)
                have b4 := ll bm (by simp)
                exact ⟨by omega, by omega, by omega, by omega⟩)).fr f5 ⟨id, id, id, id⟩)
              have HQ5 := Lib.hid ((hBq.fr fg (by omega)).fr f5 id)
              have HBn5 := Lib.hid (((HBn.out.fr fG id).fr fg (by omega)).fr f5 id)
              have HBx5 := Lib.hid (((HBx.out.fr fG id).fr fg (by omega)).fr f5 id)
              have HP5 := Lib.hid (show Blk W5 bp #[.int .i64 st.why, .int .i64 st.at] 40 by rw [hW5]; exact (Blk.at_new hbp).alloc _)
              have HV5 := Lib.hid (show Blk W5 bv #[.int .i64 0, .int .i64 0] 40 by rw [hW5]; exact Blk.at_new (by rw [hbv]; simp))
              have HF5 := Lib.hid (((HF.out.trans fG).step fg (fun y hy h => by omega)).trans f5)
              have HN5 := Lib.hid (show (∀ y, y ∈ [bo, bw, bs, bm] → y < bq ∧ w.heap.size ≤ y ∧ y ≠ bn ∧ y ≠ bx ∧ y ≠ x ∧ y ≠ g) ∧ bn < bq ∧ bx < bq ∧ x < bq ∧ g < bq ∧ bq < bg ∧ bg < bt ∧ bt < bp ∧ bp < bv ∧ w.heap.size ≤ bq from ⟨fun y hy => by have a1 := dd y hy; have a2 := ll y hy; exact ⟨by omega, a1.2.2.2.2, a1.1, a1.2.1, a1.2.2.1, a1.2.2.2.1⟩, by omega, by omega, by omega, by omega, by omega, by omega, by omega, by omega, by have := HF.out.size; omega⟩)
              clear fG hWGz hBq hBg hBt gf lx lg lbx lbn ll hWG fg hH3 hG3 hT3 fg2 fg3 f5 hz2 dd d1 d2 d3 d4 d5 d6 d7 d8 d9 HH HB HBn HBx HF
              go_upto_region 20 with fail
              rw [← hW5, ← hbv, ← hbp, ← hbt, ← hbg, ← hbq]
              clear hW5 hbp hbv hbq hbg hbt e0 e1 e2 e3 c2 c5 hbw
              have cq0 := HQ5.out.cell 0
              have cq1 := HQ5.out.cell 1
              have cq2 := HQ5.out.cell 2
              have cq3 := HQ5.out.cell 3
              have cn0 := HBn5.out.cell 0
              obtain ⟨q, hq⟩ : ∃ q, q = decide (h < 0 ∨ (k : Int) ≤ h) := ⟨_, rfl⟩
              have HQ := Lib.hid hq
              clear hq
              go_cut [102] (fun t102 wx => t102 = .bool q ∧ wx = W5)
              case first =>
                rcases (show h < 0 ∨ (¬ h < 0 ∧ (k : Int) ≤ h) ∨ (¬ h < 0 ∧ ¬ (k : Int) ≤ h) by omega) with e | ⟨e, e2⟩ | ⟨e, e2⟩
                · as_aux_lemma =>
                  go_wp2_with fail
                  go_meet
                  case rel => exact ⟨by rw [HQ.out, decide_eq_true (.inl e)], rfl⟩
                · as_aux_lemma =>
                  have e' : decide (h < 0) = false := decide_eq_false e
                  go_wp2_with fail
                  go_meet
                  case rel => exact ⟨by rw [HQ.out, decide_eq_true (.inr e2)], rfl⟩
                · as_aux_lemma =>
                  have e' : decide (h < 0) = false := decide_eq_false e
                  have e2' : decide ((k : Int) ≤ h) = false := decide_eq_false e2
                  go_wp2_with fail
                  go_meet
                  case rel => exact ⟨by rw [HQ.out, decide_eq_false (by omega)], rfl⟩
              case rest =>
              as_aux_lemma =>
              obtain ⟨rfl, hwc⟩ := hcut
              have hwc := hwc.symm
              subst hwc
              go_upto_if 102 with fail
              go_cut [] (fun wx => ∃ on' wa' ne' ma', HBk bo bw bs bm k on' wa' ne' ma' wx ∧ HRel k (i + 1) F' on' wa' ne' ma' ∧ Blk wx bv #[.int .i64 st.why, .int .i64 st.at] 40 ∧ Fr (fun y => y ∈ [bo, bw, bs, bm] ∨ y = bv) W5 wx)
              case first =>
                have nd := HND.out
                obtain ⟨dd, d1, d2, d3, d4, d5, d6, d7, d8, d9⟩ := HN5.out
                have HVN := Lib.hid (show ∀ y, y ∈ [bo, bw, bs, bm] → y ≠ bv from fun y hy => by have := dd y hy; omega)
                have v0 := HV5.out.cell 0
                have v1 := HV5.out.cell 1
                have lv := HV5.out.lt
                have fv := HV5.out.frozen
                have lo := HB5.out.o.lt
                have fo := HB5.out.o.frozen
                have lk := HB5.out.k.lt
                have fk := HB5.out.k.frozen
                have ls := HB5.out.s.lt
                have fs := HB5.out.s.frozen
                have lm := HB5.out.m.lt
                have fm := HB5.out.m.frozen
                have g0 := HG5.out.cell 0
                have t0 := HT5.out.cell 0
                have nok : bo ≠ bw := nd_at nd 0 1 rfl rfl (by decide)
                have nos : bo ≠ bs := nd_at nd 0 2 rfl rfl (by decide)
                have nks : bw ≠ bs := nd_at nd 1 2 rfl rfl (by decide)
                have nqo : bq ≠ bo := by have := dd bo (by simp); omega
                have nqk : bq ≠ bw := by have := dd bw (by simp); omega
                have nqs : bq ≠ bs := by have := dd bs (by simp); omega
                clear dd d1 d2 d3 d4 d5 d6 d7 d8 d9 nd
                cases HDD.out with
                | who hb =>
                  as_aux_lemma =>
                    obtain rfl : q = true := by rw [HQ.out]; exact decide_eq_true hb
                    clear hb
                    go_wp2_with fail
                    go_meet
                    case rel =>
                      obtain ⟨e1, e2⟩ := stop_store HV5.out 3 h
                      exact ⟨on, wa, ne, ma, HB5.out.fr e2 ⟨HVN.out bo (by simp), HVN.out bw (by simp), HVN.out bs (by simp), HVN.out bm (by simp)⟩, HR.out.up, e1, e2.mono (fun _ _ h => .inr h)⟩
                | setBad j e hj hk hz =>
                  as_aux_lemma =>
                    subst e hk
                    obtain rfl : q = false := by rw [HQ.out]; exact decide_eq_false (by omega)
                    have hj' : (j : Int) < k := by omega
                    have cs := HB5.out.s.cell hj
                    obtain ⟨r1, r2, r3, r4, r5, r6⟩ := HR.out j hj
                    have u1 : (0 : Int) < ne j := by omega
                    clear r1 r2 r3 r4 r5 r6
                    go_wp2_with fail
                    go_meet
                    case rel =>
                      obtain ⟨e1, e2⟩ := stop_store HV5.out 9 (j : Int)
                      exact ⟨on, wa, ne, ma, HB5.out.fr e2 ⟨HVN.out bo (by simp), HVN.out bw (by simp), HVN.out bs (by simp), HVN.out bm (by simp)⟩, HR.out.up, e1, e2.mono (fun _ _ h => .inr h)⟩
                | set j e hj hk hz =>
                  as_aux_lemma =>
                    subst e hk
                    obtain rfl : q = false := by rw [HQ.out]; exact decide_eq_false (by omega)
                    have hj' : (j : Int) < k := by omega
                    have cs := HB5.out.s.cell hj
                    have co := HB5.out.o.cell hj
                    obtain ⟨r1, r2, r3, r4, r5, r6⟩ := HR.out j hj
                    rw [r2, hz] at cs
                    have HZZ := Lib.hid hz
                    clear r1 r2 r3 r4 r5 r6 hz
                    go_wp2_with fail
                    go_meet
                    case rel => exact ⟨_, wa, ne, ma, HB5.out.setO HND.out j qon, HR.out.set hj qon, HV5.out.other (HVN.out bo (by simp)) _, (Fr.refl _ _).setCell (fun _ => .inl (by simp)) _⟩
                | push0 j e hj hk hz =>
                  as_aux_lemma =>
                    subst e hk
                    obtain rfl : q = false := by rw [HQ.out]; exact decide_eq_false (by omega)
                    have hj' : (j : Int) < k := by omega
                    have cs := HB5.out.s.cell hj
                    have co := HB5.out.o.cell hj
                    have ck := HB5.out.k.cell hj
                    obtain ⟨r1, r2, r3, r4, r5, r6⟩ := HR.out j hj
                    rw [r2, hz] at cs
                    have hp := HR.out.push0 hj hz
                    rw [show ne j + 1 = 1 by omega] at hp
                    have HPP := Lib.hid hp
                    clear r1 r2 r3 r4 r5 r6 hz hp
                    go_wp2_with fail
                    go_meet
                    case rel => exact ⟨_, _, _, ma, ((HB5.out.setK HND.out j (on j)).setO HND.out j false).setS HND.out j 1, HPP.out, ((HV5.out.other (HVN.out bw (by simp)) _).other (HVN.out bo (by simp)) _).other (HVN.out bs (by simp)) _, (((Fr.refl _ _).setCell (fun _ => .inl (by simp)) _).setCell (fun _ => .inl (by simp)) _).setCell (fun _ => .inl (by simp)) _⟩
                | push1 j e hj hk hz =>
                  as_aux_lemma =>
                    subst e hk
                    obtain rfl : q = false := by rw [HQ.out]; exact decide_eq_false (by omega)
                    have hj' : (j : Int) < k := by omega
                    have cs := HB5.out.s.cell hj
                    have co := HB5.out.o.cell hj
                    obtain ⟨r1, r2, r3, r4, r5, r6⟩ := HR.out j hj
                    have u1 : (ne j == 0) = false := by simp; omega
                    have u2 : ne j ≤ 1000 := by omega
                    have u3 : 0 ≤ ne j := by omega
                    have HPP := Lib.hid (HR.out.push1 hj hz)
                    clear r1 r2 r3 r4 r5 r6 hz
                    go_wp2_with fail
                    go_meet
                    case rel => exact ⟨_, wa, _, ma, (HB5.out.setO HND.out j false).setS HND.out j (ne j + 1), HPP.out, (HV5.out.other (HVN.out bo (by simp)) _).other (HVN.out bs (by simp)) _, ((Fr.refl _ _).setCell (fun _ => .inl (by simp)) _).setCell (fun _ => .inl (by simp)) _⟩
                | popBad j e hj hk hz =>
                  as_aux_lemma =>
                    subst e hk
                    obtain rfl : q = false := by rw [HQ.out]; exact decide_eq_false (by omega)
                    have hj' : (j : Int) < k := by omega
                    have cs := HB5.out.s.cell hj
                    obtain ⟨r1, r2, r3, r4, r5, r6⟩ := HR.out j hj
                    rw [r2, hz] at cs
                    clear r1 r2 r3 r4 r5 r6 hz
                    go_wp2_with fail
                    go_meet
                    case rel =>
                      obtain ⟨e1, e2⟩ := stop_store HV5.out 4 (j : Int)
                      exact ⟨on, wa, ne, ma, HB5.out.fr e2 ⟨HVN.out bo (by simp), HVN.out bw (by simp), HVN.out bs (by simp), HVN.out bm (by simp)⟩, HR.out.up, e1, e2.mono (fun _ _ h => .inr h)⟩
                | pop1 j e hj hk hz =>
                  as_aux_lemma =>
                    subst e hk
                    obtain rfl : q = false := by rw [HQ.out]; exact decide_eq_false (by omega)
                    have hj' : (j : Int) < k := by omega
                    have cs := HB5.out.s.cell hj
                    have co := HB5.out.o.cell hj
                    have ck := HB5.out.k.cell hj
                    obtain ⟨r1, r2, r3, r4, r5, r6⟩ := HR.out j hj
                    rw [r2, hz] at cs
                    have hp := HR.out.pop1 hj hz
                    rw [show ne j - 1 = 0 by omega] at hp
                    have HPP := Lib.hid hp
                    clear r1 r2 r3 r4 r5 r6 hz hp
                    go_wp2_with fail
                    go_meet
                    case rel => exact ⟨_, wa, _, ma, (HB5.out.setS HND.out j 0).setO HND.out j (wa j), HPP.out, (HV5.out.other (HVN.out bs (by simp)) _).other (HVN.out bo (by simp)) _, ((Fr.refl _ _).setCell (fun _ => .inl (by simp)) _).setCell (fun _ => .inl (by simp)) _⟩
                | pop2 j e hj hk hz =>
                  as_aux_lemma =>
                    subst e hk
                    obtain rfl : q = false := by rw [HQ.out]; exact decide_eq_false (by omega)
                    have hj' : (j : Int) < k := by omega
                    have cs := HB5.out.s.cell hj
                    obtain ⟨r1, r2, r3, r4, r5, r6⟩ := HR.out j hj
                    have u1 : (ne j == 0) = false := by simp; omega
                    have u2 : ne j ≤ 1000 := by omega
                    have u3 : 2 ≤ ne j := by omega
                    have u4 : (ne j - 1 == 0) = false := by simp; omega
                    have HPP := Lib.hid (HR.out.pop2 hj hz)
                    clear r1 r2 r3 r4 r5 r6 hz
                    go_wp2_with fail
                    go_meet
                    case rel => exact ⟨on, wa, _, ma, HB5.out.setS HND.out j (ne j - 1), HPP.out, HV5.out.other (HVN.out bs (by simp)) _, (Fr.refl _ _).setCell (fun _ => .inl (by simp)) _⟩
                | postBad j e hj hk hm =>
                  subst e hk
                  obtain rfl : q = false := by rw [HQ.out]; exact decide_eq_false (by omega)
                  have hj' : (j : Int) < k := by omega
                  rcases (show m < 0 ∨ (¬ m < 0 ∧ 7 < m) by omega) with u1 | ⟨u1, u2⟩
                  all_goals
                    as_aux_lemma =>
                      clear hm
                      go_wp2_with fail
                      go_meet
                      case rel =>
                        obtain ⟨e1, e2⟩ := stop_store HV5.out 9 m
                        exact ⟨on, wa, ne, ma, HB5.out.fr e2 ⟨HVN.out bo (by simp), HVN.out bw (by simp), HVN.out bs (by simp), HVN.out bm (by simp)⟩, HR.out.up, e1, e2.mono (fun _ _ h => .inr h)⟩
                | post j p e hj hk hm hp =>
                  as_aux_lemma =>
                    subst e hk hm
                    obtain rfl : q = false := by rw [HQ.out]; exact decide_eq_false (by omega)
                    have hj' : (j : Int) < k := by omega
                    have u1 : decide ((p : Int) < 0) = false := decide_eq_false (by omega)
                    have u2 : ¬ 7 < (p : Int) := by omega
                    have u3 : (p : Int) < 8 := by omega
                    have u4 : (0 : Int) ≤ p := by omega
                    have u5 : (0 : Int) ≤ j := by omega
                    have cm := HB5.out.m.cell hj hp
                    go_wp2_with fail
                    go_region
                    all_goals go_wp2_with fail
                    all_goals go_meet
                    all_goals exact ⟨on, wa, ne, _, (HB5.out.fr (Fr.refl (fun _ => False) _).drew ⟨id, id, id, id⟩).setM HND.out j hp true, HR.out.post hj hp, (HV5.out.fr (Fr.refl (fun _ => False) _).drew id).other (HVN.out bm (by simp)) _, (Fr.refl _ _).drew.setCell (fun _ => .inl (by simp)) _⟩
                | takeNo j e hj hk hz =>
                  as_aux_lemma =>
                    subst e hk
                    obtain rfl : q = false := by rw [HQ.out]; exact decide_eq_false (by omega)
                    have hj' : (j : Int) < k := by omega
                    have HCM := Lib.hid (show ∀ p, p < 8 → W5.cell? ⟨bm, j * 8 + p, none⟩ = some (.bool false) from fun p hp => by
                      have := HB5.out.m.cell hj hp
                      rw [(HR.out j hj).2.2.1 p hp, hz] at this
                      simpa [hasb] using this)
                    clear hz
                    go_wp2_with fail
                    go_loop [21] (fun t21 => ∃ p : Nat, p ≤ 8 ∧ t21 = .int .i64 p) (fun t21 => (8 - intOf t21).toNat)
                    case atStart => exact ⟨0, by omega, rfl⟩
                    case round =>
                      obtain ⟨p, hp, rfl⟩ := hrel
                      have u4 : (0 : Int) ≤ p := by omega
                      by_cases hlt : p < 8
                      · have hlt' : (p : Int) < 8 := by omega
                        have cm := HCM.out p hlt
                        go_wp2_with fail
                        exact ⟨⟨p + 1, by omega, by go_num⟩, by simp [intOf]; omega⟩
                      · obtain rfl : p = 8 := by omega
                        go_wp2_with fail
                        go_meet
                        case rel => exact ⟨on, wa, ne, ma, HB5.out, HR.out.up, HV5.out, Fr.refl _ _⟩
                | take j e hj hk hz =>
                  as_aux_lemma =>
                    subst e hk
                    obtain rfl : q = false := by rw [HQ.out]; exact decide_eq_false (by omega)
                    have hj' : (j : Int) < k := by omega
                    obtain ⟨z, hzz⟩ : ∃ z, z = tzn (F j).mail := ⟨_, rfl⟩
                    obtain ⟨lt8, is8, low8⟩ : z < 8 ∧ hasb (F j).mail z = true ∧ ∀ p, p < z → hasb (F j).mail p = false := by
                      rcases least_mail (HR.out j hj).2.2.2.2.2 with h0 | h0
                      · exact absurd h0.1 hz
                      · rw [hzz]; exact ⟨h0.2.1, h0.2.2.1, h0.2.2.2⟩
                    have HTK : Hid (HRel k (i + 1) (upd F j { F j with mail := takeb (F j).mail z }) on wa ne (upd ma j (upd (ma j) z false))) := HR.out.take hj lt8
                    have HZE := Lib.hid hzz
                    rw [← hzz] at g0
                    have HCM := Lib.hid (show ∀ p, p < z → W5.cell? ⟨bm, j * 8 + p, none⟩ = some (.bool false) from fun p hp => by
                      have := HB5.out.m.cell hj (j := p) (by omega)
                      rw [(HR.out j hj).2.2.1 p (by omega), low8 p hp] at this
                      exact this)
                    have cz : W5.cell? ⟨bm, j * 8 + z, none⟩ = some (.bool true) := by
                      have := HB5.out.m.cell hj lt8
                      rw [(HR.out j hj).2.2.1 z lt8, is8] at this
                      exact this
                    have lt8' : (z : Int) < 8 := by omega
                    clear hz hzz low8 is8
                    go_wp2_with fail
                    go_loop [21] (fun t21 => ∃ p : Nat, p ≤ z ∧ t21 = .int .i64 p) (fun t21 => (8 - intOf t21).toNat)
                    case atStart => exact ⟨0, by omega, rfl⟩
                    case round =>
                      obtain ⟨p, hp, rfl⟩ := hrel
                      have u4 : (0 : Int) ≤ p := by omega
                      have hlt' : (p : Int) < 8 := by omega
                      by_cases hlt : p < z
                      · have cm := HCM.out p hlt
                        go_wp2_with fail
                        exact ⟨⟨p + 1, by omega, by go_num⟩, by simp [intOf]; omega⟩
                      · obtain rfl : p = z := by omega
                        go_wp2_with fail
                        go_meet
                        case rel =>
                          refine ⟨on, wa, ne, _, HB5.out.setM HND.out j lt8 false, ?_, HV5.out.other (HVN.out bm (by simp)) _, (Fr.refl _ _).setCell (fun _ => .inl (by simp)) _⟩
                          rw [← HZE.out]
                          exact HTK.out
                | due j e hj hk =>
                  as_aux_lemma =>
                    obtain ⟨k1, k2, k3, k4, k5⟩ := hk
                    subst e
                    obtain rfl : q = false := by rw [HQ.out]; exact decide_eq_false (by omega)
                    have hj' : (j : Int) < k := by omega
                    go_wp2_with fail
                    go_meet
                    case rel => exact ⟨on, wa, ne, ma, HB5.out, HR.out.up, HV5.out, Fr.refl _ _⟩
              case rest =>
                as_aux_lemma =>
                obtain ⟨W6, hW6⟩ : ∃ W, W = wc := ⟨wc, rfl⟩
                subst hW6
                obtain ⟨on', wa', ne', ma', hb6, hr6, hv6, hf6⟩ := hcut
                obtain ⟨dd, d1, d2, d3, d4, d5, d6, d7, d8, d9⟩ := HN5.out
                obtain ⟨ee, x1, x2, x3, x4, x5, x6, x7, x8, x9⟩ := HDS.out
                have ns : ∀ y, (∀ z, z ∈ [bo, bw, bs, bm] → z ≠ y) → y ≠ bv → ¬ (y ∈ [bo, bw, bs, bm] ∨ y = bv) := fun y hy hne h => h.elim (fun h => hy y h rfl) hne
                have HP6 := Lib.hid (HP5.out.fr hf6 (ns bp (fun z hz e => by have := dd z hz; omega) (by omega)))
                have HBn6 := Lib.hid (HBn5.out.fr hf6 (ns bn (fun z hz e => (dd z hz).2.2.1 e) (by omega)))
                have HBx6 := Lib.hid (HBx5.out.fr hf6 (ns bx (fun z hz e => (dd z hz).2.2.2.1 e) (by omega)))
                have HH6 := Lib.hid (HH5.out.fr hf6 (ns x (fun z hz e => (dd z hz).2.2.2.2.1 e) (by omega)) (ns g (fun z hz e => (dd z hz).2.2.2.2.2 e) (by omega)))
                have HF6 := Lib.hid (HF5.out.step hf6 (fun y hy h => by
                  rcases h with h | h
                  · have := dd y h; omega
                  · omega))
                have HB6 := Lib.hid hb6
                have HR6 := Lib.hid hr6
                have c60 := HP6.out.cell 0
                have c61 := HP6.out.cell 1
                have c62 := hv6.cell 0
                have c63 := hv6.cell 1
                clear hb6 hr6 hf6 dd d1 d2 d3 d4 d5 d6 d7 d8 d9 ee x1 x2 x3 x4 x5 x6 x7 x8 x9 ns HP5 HBn5 HBx5 HH5 HF5 HB5 HV5 HQ5 HG5 HT5 cq0 cq1 cq2 cq3 cn0 HR HQ HN5
                go_upto_region 51 with fail
                go_cut [243] (fun t243 wx => t243 = .bool false ∧ wx = W6)
                case first =>
                  rcases HDD.out.is with e | ⟨p1, p2, e, hp⟩
                  · as_aux_lemma =>
                    subst e
                    simp only [Stp.why_o, Stp.at_o, Stp.is_o] at c60 c61 c62 c63 ⊢
                    clear hv6
                    go_wp2_with fail
                    go_meet
                    case rel => exact ⟨rfl, rfl⟩
                  · subst e
                    simp only [Stp.why_s, Stp.at_s, Stp.is_s] at c60 c61 c62 c63 ⊢
                    clear hv6
                    rcases hp with rfl | rfl | rfl
                    all_goals
                      as_aux_lemma =>
                        go_wp2_with fail
                        go_meet
                        case rel => exact ⟨rfl, rfl⟩
                case rest =>
                  as_aux_lemma =>
                  obtain ⟨rfl, hwc⟩ := hcut
                  have hwc := hwc.symm
                  subst hwc
                  clear c60 c61 c62 c63 hv6 HDD
                  go_wp2_with fail
                  go_loopw [22] (fun t22 wx => ∃ j : Nat, j ≤ k ∧ t22 = .int .i64 j ∧ ∃ q, wx = W6.drewN q) (fun t22 _ => (k - intOf t22).toNat)
                  case atStart => exact ⟨0, by omega, rfl, 0, rfl⟩
                  case round =>
                    as_aux_lemma =>
                    obtain ⟨j, hj, rfl, q6, hW7⟩ := hrel
                    have f7 : Fr (fun _ => False) W6 wr := by rw [hW7]; exact Fr.drewN0 W6 q6
                    have HW7 := Lib.hid hW7
                    clear hW7
                    obtain ⟨W7, hW8⟩ : ∃ W, W = wr := ⟨wr, rfl⟩
                    subst hW8
                    have HH7 := Lib.hid (HH6.out.fr f7 id id)
                    have HB7 := Lib.hid (HB6.out.fr f7 ⟨id, id, id, id⟩)
                    have c2 : W7.cell? ⟨bn, 0, none⟩ = some (.int .i64 k) := (HBn6.out.fr f7 id).cell 0
                    have c5 : W7.cell? ⟨bx, 0, none⟩ = some (.pointer (some ⟨x, 0, none⟩)) := (HBx6.out.fr f7 id).cell 0
                    have F7 := Lib.hid f7
                    clear f7
                    have hj0 : (0 : Int) ≤ j := by omega
                    by_cases hlt : j < k
                    · as_aux_lemma =>
                      have hlt' : (j : Int) < k := by omega
                      obtain ⟨r1, r2, r3, r4, r5, r6⟩ := HR6.out j hlt
                      obtain ⟨ob, hob⟩ : ∃ q, q = (F' j).on := ⟨_, rfl⟩
                      obtain ⟨ml, hml⟩ : ∃ q, q = (F' j).mail := ⟨_, rfl⟩
                      have cO : W7.cell? ⟨bo, j, none⟩ = some (.bool (on' j)) := HB7.out.o.cell hlt
                      have cS : W7.cell? ⟨bs, j, none⟩ = some (.int .i64 (ne' j)) := HB7.out.s.cell hlt
                      rw [r1, ← hob] at cO
                      rw [r2] at cS
                      have cM : ∀ p, p < 8 → W7.cell? ⟨bm, j * 8 + p, none⟩ = some (.bool (hasb ml p)) := fun p hp => by
                        have := HB7.out.m.cell hlt hp
                        rw [r3 p hp, ← hml] at this
                        exact this
                      have m0 := cM 0 (by omega)
                      have m1 := cM 1 (by omega)
                      have m2 := cM 2 (by omega)
                      have m3 := cM 3 (by omega)
                      have m4 := cM 4 (by omega)
                      have m5 := cM 5 (by omega)
                      have m6 := cM 6 (by omega)
                      have m7 := cM 7 (by omega)
                      rw [hml.symm] at r6
                      have HML := Lib.hid hml
                      have HOB := Lib.hid hob
                      have HM2 := Lib.hid r6
                      clear r1 r2 r3 r4 r5 r6 hml hob cM
                      have HIX := Lib.hid (fun (p : Nat) (hp : p < 8) (w : World) => idx8 (hasb ml) p hp w)
                      have HLD : Hid (∀ (q : Nat) v, [Value.bool (hasb ml 0), .bool (hasb ml 1), .bool (hasb ml 2), .bool (hasb ml 3), .bool (hasb ml 4), .bool (hasb ml 5), .bool (hasb ml 6), .bool (hasb ml 7)][q]? = some v → W7.cell? ⟨bm, j * 8 + q, none⟩ = some v) := fun q v hq => by
                        match q, hq with
                        | 0, hq => cases hq; exact m0
                        | 1, hq => cases hq; exact m1
                        | 2, hq => cases hq; exact m2
                        | 3, hq => cases hq; exact m3
                        | 4, hq => cases hq; exact m4
                        | 5, hq => cases hq; exact m5
                        | 6, hq => cases hq; exact m6
                        | 7, hq => cases hq; exact m7
                        | q + 8, hq => simp at hq
                      clear m0 m1 m2 m3 m4 m5 m6 m7
                      go_upto_region 57 with fail
                      go_wp2_with (refine wpList_load_cells rfl 54 (.tmp 251) rfl bm (j * 8) rfl [.bool (hasb ml 0), .bool (hasb ml 1), .bool (hasb ml 2), .bool (hasb ml 3), .bool (hasb ml 4), .bool (hasb ml 5), .bool (hasb ml 6), .bool (hasb ml 7)] _ HLD.out Try.underlying54 rfl info_arr8 ?_)
                      go_loop [23, 253] (fun t23 t253 => ∃ p : Nat, p ≤ 8 ∧ t253 = .int .i64 p ∧ t23 = .bool (anyb ml p)) (fun _ t253 => (8 - intOf t253).toNat)
                      case atStart => exact ⟨0, by omega, rfl, rfl⟩
                      case round =>
                        obtain ⟨p, hp, rfl, rfl⟩ := hrel
                        have hp0 : (0 : Int) ≤ p := by omega
                        by_cases hlt8 : p < 8
                        · have hx := HIX.out p hlt8
                          have hlt8' : (p : Int) < 8 := by omega
                          obtain ⟨ab, hab⟩ : ∃ q, q = anyb ml p := ⟨_, rfl⟩
                          rw [← hab]
                          have HAB := Lib.hid hab
                          clear hab
                          cases ab
                          all_goals
                            go_wp2_with fail
                            exact ⟨⟨p + 1, by omega, by go_num, by rw [anyb, ← HAB.out]; rfl⟩, by simp [intOf]; omega⟩
                        · obtain rfl : p = 8 := by omega
                          rw [anyb_is HM2.out]
                          obtain ⟨mb, hmb⟩ : ∃ q, q = decide (ml ≠ 0) := ⟨_, rfl⟩
                          rw [← hmb]
                          have HMB := Lib.hid hmb
                          clear hmb
                          cases ob
                          · as_aux_lemma =>
                            go_wp2_with fail
                            go_quiet (first
                              | (go_at_call 26; exact Calls.quiet_of_same ((hart_on_eq x g k F' j _ (HH7.out.fr (Fr.drewN0 _ _) id id) hlt (v := false) HOB.out.symm).mono fun e w' h => ⟨h.1, h.2.symm⟩))
                              | (go_at_call 31; exact Calls.quiet_of_same ((hart_nest x g k F' j _ (HH7.out.fr (Fr.drewN0 _ _) id id) hlt).mono fun e w' h => ⟨h.1, h.2.symm⟩))
                              | (go_at_call 33; exact Calls.quiet_of_same ((hart_due_eq x g k F' j _ (HH7.out.fr (Fr.drewN0 _ _) id id) hlt (v := false) (by rw [← HOB.out]; rfl)).mono fun e w' h => ⟨h.1, h.2.symm⟩)))
                            go_wp2_with fail
                            exact ⟨⟨j + 1, by omega, by go_num, _, (by rw [HW7.out, World.drewN_drewN])⟩, by simp [intOf]; omega⟩
                          · as_aux_lemma =>
                            go_wp2_with fail
                            go_quiet (first
                              | (go_at_call 26; exact Calls.quiet_of_same ((hart_on_eq x g k F' j _ (HH7.out.fr (Fr.drewN0 _ _) id id) hlt (v := true) HOB.out.symm).mono fun e w' h => ⟨h.1, h.2.symm⟩))
                              | (go_at_call 31; exact Calls.quiet_of_same ((hart_nest x g k F' j _ (HH7.out.fr (Fr.drewN0 _ _) id id) hlt).mono fun e w' h => ⟨h.1, h.2.symm⟩))
                              | (go_at_call 33; exact Calls.quiet_of_same ((hart_due_eq x g k F' j _ (HH7.out.fr (Fr.drewN0 _ _) id id) hlt (v := mb) (by rw [← HOB.out, HMB.out, HML.out]; rfl)).mono fun e w' h => ⟨h.1, h.2.symm⟩)))
                            go_wp2_with fail
                            exact ⟨⟨j + 1, by omega, by go_num, _, (by rw [HW7.out, World.drewN_drewN])⟩, by simp [intOf]; omega⟩
                    · as_aux_lemma =>
                      obtain rfl : j = k := by omega
                      go_wp2_with fail
                      exact ⟨⟨i + 1, F', on', wa', ne', ma', by omega, by omega, by go_num, HH7.out, HB7.out, HR6.out, HBn6.out.fr F7.out id, HBx6.out.fr F7.out id, HF6.out.trans F7.out⟩, by simp [intOf]; omega⟩
            · have HNN := Lib.hid (fun w H => hart_n x g k F w H)
              have HRN := Lib.hid hartRuns_any
              rcases (show ¬ (i : Int) < len ∨ ((i : Int) < len ∧ ¬ (i : Int) < 50) by omega) with hx | ⟨hx, hy⟩
              all_goals
                clear hr
                as_aux_lemma =>
                  go_wp2_with fail
                  go_region_held3 (fun w' => w'.cell? ⟨bn, 0, none⟩ = some (.int .i64 k) ∧ w'.cell? ⟨bx, 0, none⟩ = some (.pointer (some ⟨x, 0, none⟩))) (first | exact ⟨by assumption, by assumption⟩)
                    (first
                      | (go_at_call 36; (with_reducible refine (HNN.out _ HH.out.drew).mono ?_); rintro e w' ⟨rfl, rfl⟩)
                      | (go_at_call 8; (with_reducible refine (HRN.out _).mono ?_); rintro e w8 ⟨rfl, f8⟩; have k0 := (HBn.out.fr ((Fr.refl (fun _ => False) _).drew.trans f8) id).cell 0; have k1 := (HBx.out.fr ((Fr.refl (fun _ => False) _).drew.trans f8) id).cell 0; have HF8 := Lib.hid f8; clear f8))
                  all_goals go_wp2_with fail
                  all_goals go_ret
                  all_goals exact ⟨rfl, (HF.out.trans ((Fr.refl (fun _ => False) _).drew.trans HF8.out)).below⟩
end Go.Proofs.Ytkclbgoagcpckaa
