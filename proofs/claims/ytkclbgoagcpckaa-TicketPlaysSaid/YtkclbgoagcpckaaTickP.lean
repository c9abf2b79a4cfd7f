import Derived.Test.YtkclbgoagcpckaaTickO
namespace Go.Proofs.Ytkclbgoagcpckaa
open Go.RowKit

section
variable {w0 : World} {m g k : Nat} {v : Value} {tb : Nat → Nat} {b : Nat → Nat} {V : Nat → Int} {c : Int} {at_ tk : Nat → Int} {w : World} (A : Apart w0 m g k v tb) (h : TrySt w0 m g 6 k v tb (fun j => (b j : Int)) V c at_ tk w)
include A h
theorem TrySt.did {j : Nat} (hj : j < k) {S : Nat → Prop} {w' : World} (f : Fr S w w') (hS : ∀ x, S x → x = tb j ∨ x = m ∨ x = g) {V' : Nat → Int} {c' x y : Int} (M : Mem w' m g 6 V' c') (t : TryB w' (tb j) (b j : Int) x y) :
    TrySt w0 m g 6 k v tb (fun j => (b j : Int)) V' c' (upd at_ j x) (upd tk j y) w' ∧ Fr (fun x => x = tb j ∨ x = m ∨ x = g) w w' :=
  have f' := f.mono (fun x _ hx => hS x hx)
  ⟨h.turned A hj f' M t, f'⟩
end

theorem cell_keep {w : World} {b x o : Nat} {u v : Value} (h : b ≠ x) (hc : w.cell? ⟨b, o, none⟩ = some u) : (w.setCell ⟨x, 0, none⟩ v).cell? ⟨b, o, none⟩ = some u :=
  (World.cell?_of_block (Below.heap_setCell _ _ _ _ (fun e => h e))).trans hc

set_option maxHeartbeats 2000000 in
set_option maxRecDepth 100000 in
theorem ticketPlays1 {w0 : World} {m g k : Nat} {v : Value} {tb : Nat → Nat} {b : Nat → Nat} {V : Nat → Int} {c : Int} {at_ tk : Nat → Int} {w : World} (A : Apart w0 m g k v tb) (h : TrySt w0 m g 6 k v tb (fun j => (b j : Int)) V c at_ tk w)
    {bl bi bt bj bm bg ab off len cap i j : Nat} {X : Bool} {s : Stp} {got : Bool} {V' : Nat → Int} {c' : Int} {at' tk' : Nat → Int}
    (Bl : Blk w bl #[.slice (some ⟨ab, off, none⟩) len cap] 35) (Bi : Blk w bi #[.int .i64 i] 3) (hi : i < len) (cX : w.cell? ⟨ab, off + i * 2 + 1, none⟩ = some (.bool X))
    (Bt : Blk w bt #[v] 32) (Bj : Blk w bj #[.int .i64 j] 3) (Bm : Blk w bm #[.pointer (some ⟨m, 0, none⟩)] 22) (Bg : Blk w bg #[.bool false] 4) (hj : j < k)
    (D : TD V c at_ tk j (b j) X s got V' c' at' tk') (hb : b j + 1 < 6) (hc : 0 ≤ c ∧ c ≤ 1000000) (hg : ∀ x, x = tb j ∨ x = m ∨ x = g → x ≠ bg) (hgv : ∀ x, Of v x → x ≠ bg) (hgt : ∀ i, i < k → tb i ≠ bg) (hg0 : w0.heap.size ≤ bg)
    (hbt : ∀ y, y = bt ∨ y = bj ∨ y = bm → y ≠ m ∧ y ≠ g ∧ y ≠ bg ∧ ∀ i, i < k → y ≠ tb i) :
    Calls Try.prog 21 #[.pointer (some ⟨bl, 0, none⟩), .pointer (some ⟨bi, 0, none⟩), .pointer (some ⟨bt, 0, none⟩), .pointer (some ⟨bj, 0, none⟩), .pointer (some ⟨bm, 0, none⟩), .pointer (some ⟨bg, 0, none⟩)] w fun e w' =>
      Tame s e ∧ Fr (fun x => (x = tb j ∨ x = m ∨ x = g) ∨ x = bg) w w' ∧ TrySt w0 m g 6 k v tb (fun j => (b j : Int)) V' c' at' tk' w' ∧ Blk w' bg #[.bool got] 4 := by
  have l0 := Bl.cell 0
  have i0 := Bi.cell 0
  have t0 := Bt.cell 0
  have j0 := Bj.cell 0
  have m0 := Bm.cell 0
  obtain ⟨gv, cv, rfl, hgl, hcv, cells⟩ := h.T.at hj
  have cj := cells j hj
  have hi' : (i : Int) < len := by omega
  have hj' : (j : Int) < k := by omega
  have hi0 : (0 : Int) ≤ i := by omega
  have hj0 : (0 : Int) ≤ j := by omega
  have HA := Lib.hid A
  have HH := Lib.hid h
  have HD := Lib.hid h.drew
  have t := h.drew.T.t j hj
  have lg := Bg.lt
  have fg := Bg.frozen
  have g0 := Bg.cell 0
  have HG := Lib.hid Bg
  have hdr : Fr (fun x => x = tb j ∨ x = m ∨ x = g) w w.drew := (Fr.refl _ _).drew
  have HDR := Lib.hid hdr
  have FIN : Hid (∀ {V'' : Nat → Int} {c'' : Int} {a'' t'' : Nat → Int} (q : Bool) (w' : World), TrySt w0 m g 6 k (.slice (some ⟨gv, 0, none⟩) k cv) tb (fun j => (b j : Int)) V'' c'' a'' t'' w' → Fr (fun x => x = tb j ∨ x = m ∨ x = g) w w' →
      Fr (fun x => (x = tb j ∨ x = m ∨ x = g) ∨ x = bg) w (w'.setCell ⟨bg, 0, none⟩ (.bool q)) ∧ TrySt w0 m g 6 k (.slice (some ⟨gv, 0, none⟩) k cv) tb (fun j => (b j : Int)) V'' c'' a'' t'' (w'.setCell ⟨bg, 0, none⟩ (.bool q)) ∧ Blk (w'.setCell ⟨bg, 0, none⟩ (.bool q)) bg #[.bool q] 4) := fun q w' h' f => by
    have fs : Fr (fun x => x = bg) w' (w'.setCell ⟨bg, 0, none⟩ (.bool q)) := Fr.set1 _ _ _ _
    refine ⟨(f.mono (fun _ _ => .inl)).setCell (fun _ => .inr rfl) _, ⟨h'.M.fr fs (fun e => hg m (.inr (.inl rfl)) e) (fun e => hg g (.inr (.inr rfl)) e), h'.T.fr fs hgv hgt, h'.F.step fs (fun x hx e => by omega)⟩, ?_⟩
    exact (HG.out.fr f (fun e => hg bg e rfl)).set 0 (.bool q)
  have FIN0 : Hid (∀ (w' : World), TrySt w0 m g 6 k (.slice (some ⟨gv, 0, none⟩) k cv) tb (fun j => (b j : Int)) V' c' at' tk' w' → Fr (fun x => x = tb j ∨ x = m ∨ x = g) w w' → Fr (fun x => (x = tb j ∨ x = m ∨ x = g) ∨ x = bg) w w' ∧ TrySt w0 m g 6 k (.slice (some ⟨gv, 0, none⟩) k cv) tb (fun j => (b j : Int)) V' c' at' tk' w' ∧ Blk w' bg #[.bool false] 4) := fun w' h' f =>
    ⟨f.mono (fun _ _ => .inl), h', HG.out.fr f (fun e => hg bg e rfl)⟩
  have nt := hbt bt (.inl rfl)
  have nj := hbt bj (.inr (.inl rfl))
  have nm := hbt bm (.inr (.inr rfl))
  have nv : gv ≠ m ∧ gv ≠ g ∧ gv ≠ bg ∧ gv ≠ tb j := ⟨(A.v gv rfl).2.1, (A.v gv rfl).2.2, hgv gv rfl, fun e => h.T.apart hj (e ▸ rfl)⟩
  have n1 : bt ≠ bg := nt.2.2.1
  have n2 : bj ≠ bg := nj.2.2.1
  have n3 : bm ≠ bg := nm.2.2.1
  have n4 : gv ≠ bg := nv.2.2.1
  have KG : Hid (∀ w', Fr (fun x => x = tb j ∨ x = m ∨ x = g) w w' → w'.cell? ⟨bg, 0, none⟩ = some (.bool false) ∧ (∀ q, w'.frozen? ⟨bg, q, none⟩ = false) ∧ bg < w'.heap.size ∧
      w'.cell? ⟨bt, 0, none⟩ = some (.slice (some ⟨gv, 0, none⟩) k cv) ∧ w'.cell? ⟨bj, 0, none⟩ = some (.int .i64 j) ∧ w'.cell? ⟨gv, j, none⟩ = some (.pointer (some ⟨tb j, 0, none⟩)) ∧ w'.cell? ⟨bm, 0, none⟩ = some (.pointer (some ⟨m, 0, none⟩))) := fun w' f => by
    have B := HG.out.fr f (fun e => hg bg e rfl)
    have kt := nt.2.2.2 j hj
    have kj := nj.2.2.2 j hj
    have km := nm.2.2.2 j hj
    exact ⟨B.cell 0, B.frozen, B.lt, (Bt.fr f (by omega)).cell 0, (Bj.fr f (by omega)).cell 0, (World.cell?_of_block (f.block gv hgl (by omega))).trans cj, (Bm.fr f (by omega)).cell 0⟩
  clear nt nj nm nv
  clear Bl Bi Bt Bj Bm Bg hgl hcv cells hg hgv hgt hg0 hdr hbt
  cases D with
  | leaveBad e =>
    have HC := Lib.hid (leave_bad (tb j) m (b j) (at_ j) (tk j) w.drew t e)
    clear h A t
    go_enter Try.func21, Try.ntmps21
    go_wp2_with fail
    go_region_dies
    all_goals
      refine HC.out.mono ?_
      rintro e w' ⟨⟨older, rfl, ho⟩, f⟩
      have f2 := HDR.out.trans (f.mono (fun _ _ h => h.elim))
      obtain ⟨r1, r2, r3⟩ := FIN0.out w' ⟨HD.out.M.fr f id id, HD.out.T.fr f (fun _ _ => id) (fun _ _ => id), HD.out.F.trans f⟩ f2
      exact ⟨rfl, ⟨older, rfl, ho⟩, r1, r2, r3⟩
  | leave e =>
    rw [e] at t
    have HC := Lib.hid (leave_ok (tb j) m g 6 V c (b j) (tk j) w.drew HD.out.M hc t hb (by omega))
    have SUB : Hid (∀ x, (x = tb j ∨ x = m ∨ x = g) → x = tb j ∨ x = m ∨ x = g) := fun x h => h
    clear h A t
    go_enter Try.func21, Try.ntmps21
    go_wp2_with fail
    go_region_held3 (fun w' => w'.cell? ⟨bt, 0, none⟩ = some (.slice (some ⟨gv, 0, none⟩) k cv) ∧ w'.cell? ⟨bj, 0, none⟩ = some (.int .i64 j) ∧ w'.cell? ⟨gv, j, none⟩ = some (.pointer (some ⟨tb j, 0, none⟩)) ∧ w'.cell? ⟨bm, 0, none⟩ = some (.pointer (some ⟨m, 0, none⟩))) (first | exact ⟨by assumption, by assumption, by assumption, by assumption⟩ | exact ⟨cell_keep n1 (by assumption), cell_keep n2 (by assumption), cell_keep n4 (by assumption), cell_keep n3 (by assumption)⟩)
      (first | (go_at_call 15; (with_reducible refine HC.out.mono ?_); rintro e w' ⟨rfl, f, t', M'⟩; obtain ⟨_, _, _, k3, k4, k5, k6⟩ := KG.out _ ((HDR.out).trans (f.mono (fun x _ hx => SUB.out x hx))); have HF := Lib.hid f; have HT := Lib.hid t'; have HM := Lib.hid M'; clear f t' M'))
    all_goals go_end0
    all_goals
      obtain ⟨q1, q2⟩ := TrySt.did HA.out HD.out hj HF.out SUB.out HM.out HT.out
      rw [upd_same (f := tk) rfl] at q1
      obtain ⟨r1, r2, r3⟩ := FIN0.out _ q1 (HDR.out.trans q2)
      exact ⟨⟨_, rfl⟩, r1, r2, r3⟩
  | fresh e =>
    rw [e] at t
    have HC := Lib.hid (Go.Proofs.Ytkclbgoagcpckaa.step_fresh (tb j) m g 6 V c (b j) (tk j) w.drew HD.out.M hc t (by omega))
    have SUB : Hid (∀ x, (x = tb j ∨ x = m ∨ x = g) → x = tb j ∨ x = m ∨ x = g) := fun x h => h
    clear h A t
    go_enter Try.func21, Try.ntmps21
    go_wp2_with fail
    go_region_held3 (fun w' => w'.cell? ⟨bt, 0, none⟩ = some (.slice (some ⟨gv, 0, none⟩) k cv) ∧ w'.cell? ⟨bj, 0, none⟩ = some (.int .i64 j) ∧ w'.cell? ⟨gv, j, none⟩ = some (.pointer (some ⟨tb j, 0, none⟩)) ∧ w'.cell? ⟨bm, 0, none⟩ = some (.pointer (some ⟨m, 0, none⟩))) (first | exact ⟨by assumption, by assumption, by assumption, by assumption⟩ | exact ⟨cell_keep n1 (by assumption), cell_keep n2 (by assumption), cell_keep n4 (by assumption), cell_keep n3 (by assumption)⟩)
      (first | (go_at_call 14; (with_reducible refine HC.out.mono ?_); rintro e w' ⟨rfl, f, t', M'⟩; obtain ⟨k0, k1, k2, k3, k4, k5, k6⟩ := KG.out _ ((HDR.out).trans (f.mono (fun x _ hx => SUB.out x hx))); have HF := Lib.hid f; have HT := Lib.hid t'; have HM := Lib.hid M'; clear f t' M'))
    all_goals go_wp2_with fail
    all_goals go_end0
    all_goals
      obtain ⟨q1, q2⟩ := TrySt.did HA.out HD.out hj HF.out SUB.out HM.out HT.out
      have q1 := q1
      obtain ⟨r1, r2, r3⟩ := FIN.out false _ q1 (HDR.out.trans q2)
      exact ⟨⟨_, rfl⟩, r1, r2, r3⟩
  | no e hv =>
    rw [e] at t
    have HC' := Go.Proofs.Ytkclbgoagcpckaa.step_waits (tb j) m g 6 V c (b j) (tk j) w.drew HD.out.M hc t hb (by omega)
    rw [decide_eq_false hv, if_neg hv] at HC'
    have HC := Lib.hid HC'
    have HE := Lib.hid e
    have SUB : Hid (∀ x, (x = tb j ∨ x = m) → x = tb j ∨ x = m ∨ x = g) := fun x h => h.elim .inl (fun h => .inr (.inl h))
    clear hv HC' e
    clear h A t
    go_enter Try.func21, Try.ntmps21
    go_wp2_with fail
    go_region_held3 (fun w' => w'.cell? ⟨bt, 0, none⟩ = some (.slice (some ⟨gv, 0, none⟩) k cv) ∧ w'.cell? ⟨bj, 0, none⟩ = some (.int .i64 j) ∧ w'.cell? ⟨gv, j, none⟩ = some (.pointer (some ⟨tb j, 0, none⟩)) ∧ w'.cell? ⟨bm, 0, none⟩ = some (.pointer (some ⟨m, 0, none⟩))) (first | exact ⟨by assumption, by assumption, by assumption, by assumption⟩ | exact ⟨cell_keep n1 (by assumption), cell_keep n2 (by assumption), cell_keep n4 (by assumption), cell_keep n3 (by assumption)⟩)
      (first | (go_at_call 14; (with_reducible refine HC.out.mono ?_); rintro e w' ⟨rfl, f, t', M'⟩; obtain ⟨k0, k1, k2, k3, k4, k5, k6⟩ := KG.out _ ((HDR.out).trans (f.mono (fun x _ hx => SUB.out x hx))); have HF := Lib.hid f; have HT := Lib.hid t'; have HM := Lib.hid M'; clear f t' M'))
    all_goals go_wp2_with fail
    all_goals go_end0
    all_goals
      obtain ⟨q1, q2⟩ := TrySt.did HA.out HD.out hj HF.out SUB.out HM.out HT.out
      rw [upd_same (f := tk) rfl, upd_same (f := at_) HE.out] at q1
      obtain ⟨r1, r2, r3⟩ := FIN.out false _ q1 (HDR.out.trans q2)
      exact ⟨⟨_, rfl⟩, r1, r2, r3⟩
  | yes e hv =>
    rw [e] at t
    have HC' := Go.Proofs.Ytkclbgoagcpckaa.step_waits (tb j) m g 6 V c (b j) (tk j) w.drew HD.out.M hc t hb (by omega)
    rw [decide_eq_true hv, if_pos hv] at HC'
    have HC := Lib.hid HC'
    have SUB : Hid (∀ x, (x = tb j ∨ x = m) → x = tb j ∨ x = m ∨ x = g) := fun x h => h.elim .inl (fun h => .inr (.inl h))
    clear hv HC' e
    clear h A t
    go_enter Try.func21, Try.ntmps21
    go_wp2_with fail
    go_region_held3 (fun w' => w'.cell? ⟨bt, 0, none⟩ = some (.slice (some ⟨gv, 0, none⟩) k cv) ∧ w'.cell? ⟨bj, 0, none⟩ = some (.int .i64 j) ∧ w'.cell? ⟨gv, j, none⟩ = some (.pointer (some ⟨tb j, 0, none⟩)) ∧ w'.cell? ⟨bm, 0, none⟩ = some (.pointer (some ⟨m, 0, none⟩))) (first | exact ⟨by assumption, by assumption, by assumption, by assumption⟩ | exact ⟨cell_keep n1 (by assumption), cell_keep n2 (by assumption), cell_keep n4 (by assumption), cell_keep n3 (by assumption)⟩)
      (first | (go_at_call 14; (with_reducible refine HC.out.mono ?_); rintro e w' ⟨rfl, f, t', M'⟩; obtain ⟨k0, k1, k2, k3, k4, k5, k6⟩ := KG.out _ ((HDR.out).trans (f.mono (fun x _ hx => SUB.out x hx))); have HF := Lib.hid f; have HT := Lib.hid t'; have HM := Lib.hid M'; clear f t' M'))
    all_goals go_wp2_with fail
    all_goals go_end0
    all_goals
      obtain ⟨q1, q2⟩ := TrySt.did HA.out HD.out hj HF.out SUB.out HM.out HT.out
      rw [upd_same (f := tk) rfl] at q1
      obtain ⟨r1, r2, r3⟩ := FIN.out true _ q1 (HDR.out.trans q2)
      exact ⟨⟨_, rfl⟩, r1, r2, r3⟩
  | holds e =>
    rw [e] at t
    have HC := Lib.hid (Go.Proofs.Ytkclbgoagcpckaa.step_holds (tb j) m (b j) (tk j) w.drew t)
    obtain ⟨k0, k1, k2, _, _, _, _⟩ := KG.out _ HDR.out
    clear h A t
    go_enter Try.func21, Try.ntmps21
    go_wp2_with fail
    go_region_held3 (fun w' => w'.cell? ⟨bt, 0, none⟩ = some (.slice (some ⟨gv, 0, none⟩) k cv) ∧ w'.cell? ⟨bj, 0, none⟩ = some (.int .i64 j) ∧ w'.cell? ⟨gv, j, none⟩ = some (.pointer (some ⟨tb j, 0, none⟩)) ∧ w'.cell? ⟨bm, 0, none⟩ = some (.pointer (some ⟨m, 0, none⟩))) (first | exact ⟨by assumption, by assumption, by assumption, by assumption⟩ | exact ⟨cell_keep n1 (by assumption), cell_keep n2 (by assumption), cell_keep n4 (by assumption), cell_keep n3 (by assumption)⟩)
      (first | (go_at_call 14; (with_reducible refine HC.out.mono ?_); rintro e w' ⟨rfl, rfl⟩))
    all_goals go_wp2_with fail
    all_goals go_end0
    all_goals
      obtain ⟨r1, r2, r3⟩ := FIN.out true _ HD.out HDR.out
      exact ⟨⟨_, rfl⟩, r1, r2, r3⟩
  | done e =>
    rw [e] at t
    have HC := Lib.hid (Go.Proofs.Ytkclbgoagcpckaa.step_done (tb j) m (b j) (tk j) w.drew t)
    clear h A t
    go_enter Try.func21, Try.ntmps21
    go_wp2_with fail
    go_region_dies
    all_goals
      refine HC.out.mono ?_
      rintro e w' ⟨rfl, rfl⟩
      obtain ⟨r1, r2, r3⟩ := FIN0.out _ HD.out HDR.out
      exact ⟨rfl, ⟨[], rfl, rfl⟩, r1, r2, r3⟩
end Go.Proofs.Ytkclbgoagcpckaa
