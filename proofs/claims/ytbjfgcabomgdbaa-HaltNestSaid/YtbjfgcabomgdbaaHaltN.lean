import Derived.Test.YtbjfgcabomgdbaaHaltG
namespace Go.Proofs.Ytbjfgcabomgdbaa
open Go.RowKit

/-- the closure of HaltNest's rows -/
theorem nestDeed (k a i : Int) (bd bk bs : Nat) (v : Value) (n : Nat) (xs : List Value) (w : World) (hi : 0 ≤ i) (hi2 : i ≤ 1000000) (hd : Blk w bd #[.int .i64 k, .int .i64 a] 35) (hk : Blk w bk #[.int .i64 i] 3)
    (hb : Blk w bs #[v] 27) (ho : Own w 3 1 n v xs) (hn : n ≤ 1000000) :
    Calls Try.prog 31 #[.pointer (some ⟨bd, 0, none⟩), .pointer (some ⟨bk, 0, none⟩), .pointer (some ⟨bs, 0, none⟩)] w fun e w' =>
      Tame (outD k a) e ∧ ∃ v', Blk w' bs #[v'] 27 ∧ Own w' 3 1 (n + 1) v' (xs ++ [.int .i64 i]) ∧ Fr (fun j => j = bs ∨ Of v j) w w' ∧ ∀ j, Of v' j → Of v j ∨ w.heap.size ≤ j := by
  have c0 := hd.cell 0
  have c1 := hd.cell 1
  have c2 := hk.cell 0
  go_enter Try.func31, Try.ntmps31
  go_wp2_with fail
  refine (act_any k a i bs v n xs w hi hi2 hb ho hn).mono ?_
  intro e w' h
  have H := Lib.hid h
  clear h
  cases e with
  | returned u =>
    dsimp only
    go_wp2_with fail
    go_end0
    exact ⟨H.out.1.ret, H.out.2⟩
  | panicked chain => exact ⟨rfl, H.out⟩
  | outgrown => exact H.out.1.no.elim

theorem nest_fn : DeedFn 31 := ⟨fun a b c w => by simp [go_sem], nestDeed⟩

def NestRel (w0 : World) (bs b6 : Nat) (m : Nat) (K A : Nat → Int) (t4 t5 : Value) (w : World) : Prop :=
  ∃ (i : Nat) (bd bk : Nat → Nat), i ≤ m ∧ t5 = .int .i64 i ∧ RowsSt 31 w0 bs b6 .ok K A i bd bk t4 w ∧ (∀ x, Of t4 x → w0.heap.size ≤ x) ∧ (∀ j, j < i → w0.heap.size ≤ bd j ∧ w0.heap.size ≤ bk j)

/-- a slice of deeds, as it is read -/
def Deeds2 (w : World) (a : Option Addr) (len : Nat) (K A : Nat → Int) : Prop :=
  len = 0 ∨ ∃ b off, a = some ⟨b, off, none⟩ ∧ b < w.heap.size ∧ ∀ i, i < len → w.cell? ⟨b, off + i * 2, none⟩ = some (.int .i64 (K i)) ∧ w.cell? ⟨b, off + i * 2 + 1, none⟩ = some (.int .i64 (A i))

theorem Deeds2.of {w : World} {a : Option Addr} {len cap : Nat} {V : Nat → Nat → Value} (s : IsSl [.int .i64, .int .i64] w a len cap V) : ∃ K A, Deeds2 w a len K A := by
  rcases s.cases with h | ⟨b, off, rfl, hb, _, hc⟩
  · exact ⟨fun _ => 0, fun _ => 0, .inl h⟩
  · obtain ⟨K, hK⟩ := ok_ints (k := .i64) (fun i hi => (hc i 0 _ hi rfl).2)
    obtain ⟨A, hA⟩ := ok_ints (k := .i64) (fun i hi => (hc i 1 _ hi rfl).2)
    refine ⟨K, A, .inr ⟨b, off, rfl, hb, fun i hi => ⟨?_, ?_⟩⟩⟩
    · have := (hc i 0 _ hi rfl).1; rw [(hK i hi).1] at this; exact this
    · have := (hc i 1 _ hi rfl).1; rw [(hA i hi).1] at this; exact this

theorem Deeds2.fr {S : Nat → Prop} {w w' : World} {a : Option Addr} {len : Nat} {K A : Nat → Int} (h : Deeds2 w a len K A) (f : Fr S w w') (hs : ∀ b off, a = some ⟨b, off, none⟩ → b < w.heap.size → ¬ S b) : Deeds2 w' a len K A := by
  rcases h with h | ⟨b, off, ha, hb, hc⟩
  · exact .inl h
  · exact .inr ⟨b, off, ha, Nat.lt_of_lt_of_le hb f.size, fun i hi => ⟨(World.cell?_of_block (f.block b hb (hs b off ha hb))).trans (hc i hi).1, (World.cell?_of_block (f.block b hb (hs b off ha hb))).trans (hc i hi).2⟩⟩

set_option maxHeartbeats 1000000 in
set_option maxRecDepth 100000 in
theorem nestInner (a : Option Addr) (len cap : Nat) (K A : Nat → Int) (pl ps pi pf : Nat) (w : World) (hlc : len ≤ cap) (hcm : cap ≤ 9223372036854775807) (hK : Deeds2 w a len K A)
    (hl : Blk w pl #[.slice a len cap] 32) (hs : Blk w ps #[.slice none 0 0] 27) (hi : Blk w pi #[.int .i64 0] 3) (hf : Blk w pf #[.int .i64 0, .int .i64 0] 23) :
    Calls Try.prog 30 #[.pointer (some ⟨pl, 0, none⟩), .pointer (some ⟨ps, 0, none⟩), .pointer (some ⟨pi, 0, none⟩), .pointer (some ⟨pf, 0, none⟩)] w fun e w' =>
      Tame .ok e ∧ Fr (fun k => k = ps ∨ k = pi ∨ k = pf) w w' ∧ Blk w' pi #[.int .i64 (firstStop (fun i => outD (K i) (A i)) (min len 6) 0)] 3 ∧
      Blk w' pf #[.int .i64 (firstS (fun i => outD (K i) (A i)) (min len 6)).why, .int .i64 (firstS (fun i => outD (K i) (A i)) (min len 6)).at] 23 ∧
      ∃ v n xs, n ≤ 6 ∧ Blk w' ps #[v] 27 ∧ Own w' 3 1 n v xs ∧ ∀ x, Of v x → w.heap.size ≤ x := by
  obtain ⟨m, hm⟩ : ∃ m, m = min len 6 := ⟨_, rfl⟩
  rw [← hm]
  have hm0 : m ≤ len := by omega
  have hm1 : m ≤ 6 := by omega
  have HM := Lib.hid hm
  clear hm
  obtain ⟨i0, hif, hz0, hz1, hz2⟩ := info_parts info_func
  have hmf : ∀ (fn : Fn) (first cap : Array Value) (w : World), (Instr.makeFunc fn first cap).run Try.prog w = .ok (.func fn first cap) w := fun _ _ _ _ => rfl
  have HK := Lib.hid hK
  have HS := Lib.hid hs
  have HI := Lib.hid hi
  have HF := Lib.hid hf
  have HL := Lib.hid hl
  clear hK hs hi hf hl
  go_enter Try.func30, Try.ntmps30
  go_wp2_with fail
  go_loopw [4, 5] (fun t4 t5 wr => NestRel w ps pf m K A t4 t5 wr) (fun _ i _ => m - (intOf i).toNat)
  case atStart =>
    exact ⟨0, fun _ => 0, fun _ => 0, Nat.zero_le _, rfl, ⟨HS.out, HF.out, Own.nil _ _ _, fun j hj => absurd hj (Nat.not_lt_zero _), Fr.refl _ _⟩, fun x hx => by simp [Of, Value.ownBlock] at hx, fun j hj => absurd hj (Nat.not_lt_zero _)⟩
  case round =>
    obtain ⟨i, bd, bk, hi, rfl, st, hn4, hbd⟩ := hrel
    have HB := Lib.hid hbd
    clear hbd
    have cl := (HL.out.fr st.fr id).cell 0
    by_cases him : i < m
    · rcases HK.out with h | ⟨b, off, ha, hb, hc⟩
      · omega
      subst ha
      have c0 := (World.cell?_of_block (st.fr.block b hb id)).trans (hc i (by omega)).1
      have c1 := (World.cell?_of_block (st.fr.block b hb id)).trans (hc i (by omega)).2
      have hbw : b < wr.heap.size := Nat.lt_of_lt_of_le hb st.fr.size
      have hlt := st.seen.lt
      have hws0 := st.fr.size
      have f3 : Fr (fun _ => False) wr (((wr.alloc (.cells #[.int .i64 (K i), .int .i64 (A i)] 35)).alloc (.cells #[.int .i64 i] 3)).alloc (.cells #[.func (.func 31) #[] #[.pointer (some ⟨wr.heap.size, 0, none⟩), .pointer (some ⟨wr.heap.size + 1, 0, none⟩), .pointer (some ⟨ps, 0, none⟩)]] 1)) :=
        ((((Fr.refl _ wr).alloc _).alloc _).alloc _)
      have st3 := st.go f3
      have O1 := st3.fns
      have D1 : Blk (((wr.alloc (.cells #[.int .i64 (K i), .int .i64 (A i)] 35)).alloc (.cells #[.int .i64 i] 3)).alloc (.cells #[.func (.func 31) #[] #[.pointer (some ⟨wr.heap.size, 0, none⟩), .pointer (some ⟨wr.heap.size + 1, 0, none⟩), .pointer (some ⟨ps, 0, none⟩)]] 1)) wr.heap.size #[.int .i64 (K i), .int .i64 (A i)] 35 :=
        ((Blk.at_new rfl).alloc _).alloc _
      have E1 : Blk (((wr.alloc (.cells #[.int .i64 (K i), .int .i64 (A i)] 35)).alloc (.cells #[.int .i64 i] 3)).alloc (.cells #[.func (.func 31) #[] #[.pointer (some ⟨wr.heap.size, 0, none⟩), .pointer (some ⟨wr.heap.size + 1, 0, none⟩), .pointer (some ⟨ps, 0, none⟩)]] 1)) (wr.heap.size + 1) #[.int .i64 i] 3 :=
        (Blk.at_new (by simp)).alloc _
      have ST := Lib.hid st3
      have HD := Lib.hid D1
      have HE := Lib.hid E1
      have HB5 := Lib.hid (show ∀ j, j < i + 1 → w.heap.size ≤ (if j = i then wr.heap.size else bd j) ∧ w.heap.size ≤ (if j = i then wr.heap.size + 1 else bk j) by
        intro j hj
        by_cases e : j = i
        · simp only [e, if_true]; omega
        · simp only [e, if_false]; exact HB.out j (by omega))
      have hil : i < len := by omega
      have hi6 : (i : Int) < 6 := by omega
      clear st3 f3 st D1 E1 hc
      go_wp2_with (at_builtin; refine wpList_append1 rfl _ _ 33 rfl 1 i0 .nilFunc 8 Try.underlying33 hif hz0 hz1 hz2 rfl (by decide) _ _ _ rfl _ _ O1 (wr.heap.size + 1 + 1) (by simp) rfl rfl (by omega) ?_; intro v' w1 O2 F2 hv'; have ST2 := Lib.hid (ST.out.push HD.out HE.out hn4 O2 F2); have HN5 := Lib.hid (show ∀ x, Of v' x → w.heap.size ≤ x from fun x hx => (hv' x hx).elim (hn4 x) (fun h => by first | omega | (simp at h; omega))); clear O1 O2 F2 hv' hn4 ST HD HE c0 c1)
      refine ⟨⟨i + 1, (fun j => if j = i then wr.heap.size else bd j), (fun j => if j = i then wr.heap.size + 1 else bk j), by omega, by go_num, ST2.out, HN5.out, HB5.out⟩, by simp [intOf]; omega⟩
    · have e : i = m := by omega
      subst e
      have hrun := rows_run nest_fn (by omega) st hn4 (st.seen.ne st.first (.inr (by decide))) HB.out
      have H1 := Lib.hid hrun
      have hno : i < len → ¬ ((i : Int) < 6) := by have := HM.out; omega
      have HNO := Lib.hid hno
      clear hrun hn4 hno
      by_cases hil : i < len
      · have h6 := HNO.out hil
        go_wp2_with fail
        refine H1.out.mono ?_
        rintro e w3 ⟨rfl, b6, hfr, v, bs, os, hvn⟩
        have nib := HI.out.ne HS.out (.inr (by decide))
        have nif := HI.out.ne HF.out (.inr (by decide))
        have nsf := HS.out.ne HF.out (.inr (by decide))
        have bi := HI.out.fr hfr nib
        have ci := bi.cell 0
        have cf0 := b6.cell 0
        have cf1 := b6.cell 1
        have ff := b6.frozen
        have fi := bi.frozen
        have G1 := Lib.hid b6
        have G2 := Lib.hid bs
        have G3 := Lib.hid os
        have G4 := Lib.hid bi
        have G5 := Lib.hid hfr
        have G6 := Lib.hid hvn
        clear b6 bs os bi hfr hvn
        go_wp2_with fail
        go_end0
        have f1 : Fr (fun k => k = pi ∨ k = pf) w3 (((w3.setCell ⟨pi, 0, none⟩ (.int .i64 (firstStop (fun i => outD (K i) (A i)) i 0))).setCell ⟨pf, 0, none⟩ (.int .i64 (firstS (fun i => outD (K i) (A i)) i).why)).setCell ⟨pf, 1, none⟩ (.int .i64 (firstS (fun i => outD (K i) (A i)) i).at)) :=
          ((((Fr.refl _ w3).setCell (fun _ => .inl rfl) _).setCell (fun _ => .inr rfl) _).setCell (fun _ => .inr rfl) _)
        refine ⟨⟨_, rfl⟩, (G5.out.mono (T := fun k => k = ps ∨ k = pi ∨ k = pf) (fun _ _ h => .inl h)).step f1 (fun _ _ h => .inr h), ?_, ?_, v, _, _, by omega, G2.out.fr f1 ?_, G3.out.fr f1 ?_, G6.out⟩
        · exact ((G4.out.set 0 _).other (by dsimp only; omega) _).other (by dsimp only; omega) _
        · exact (((G1.out.other (by dsimp only; omega) _).set 0 _).set 1 _)
        · omega
        · rintro x hx (h | h)
          · have := G6.out x hx
            have := HI.out.lt
            omega
          · have := G6.out x hx
            have := HF.out.lt
            omega
      · have hil' : ¬ ((i : Int) < len) := by omega
        go_wp2_with fail
        refine H1.out.mono ?_
        rintro e w3 ⟨rfl, b6, hfr, v, bs, os, hvn⟩
        have nib := HI.out.ne HS.out (.inr (by decide))
        have nif := HI.out.ne HF.out (.inr (by decide))
        have nsf := HS.out.ne HF.out (.inr (by decide))
        have bi := HI.out.fr hfr nib
        have ci := bi.cell 0
        have cf0 := b6.cell 0
        have cf1 := b6.cell 1
        have ff := b6.frozen
        have fi := bi.frozen
        have G1 := Lib.hid b6
        have G2 := Lib.hid bs
        have G3 := Lib.hid os
        have G4 := Lib.hid bi
        have G5 := Lib.hid hfr
        have G6 := Lib.hid hvn
        clear b6 bs os bi hfr hvn
        go_wp2_with fail
        go_end0
        have f1 : Fr (fun k => k = pi ∨ k = pf) w3 (((w3.setCell ⟨pi, 0, none⟩ (.int .i64 (firstStop (fun i => outD (K i) (A i)) i 0))).setCell ⟨pf, 0, none⟩ (.int .i64 (firstS (fun i => outD (K i) (A i)) i).why)).setCell ⟨pf, 1, none⟩ (.int .i64 (firstS (fun i => outD (K i) (A i)) i).at)) :=
          ((((Fr.refl _ w3).setCell (fun _ => .inl rfl) _).setCell (fun _ => .inr rfl) _).setCell (fun _ => .inr rfl) _)
        refine ⟨⟨_, rfl⟩, (G5.out.mono (T := fun k => k = ps ∨ k = pi ∨ k = pf) (fun _ _ h => .inl h)).step f1 (fun _ _ h => .inr h), ?_, ?_, v, _, _, by omega, G2.out.fr f1 ?_, G3.out.fr f1 ?_, G6.out⟩
        · exact ((G4.out.set 0 _).other (by dsimp only; omega) _).other (by dsimp only; omega) _
        · exact (((G1.out.other (by dsimp only; omega) _).set 0 _).set 1 _)
        · omega
        · rintro x hx (h | h)
          · have := G6.out x hx
            have := HI.out.lt
            omega
          · have := G6.out x hx
            have := HF.out.lt
            omega

theorem nestOuter (po : Nat) (n : Int) (hn : 0 ≤ n) (hn2 : n ≤ 1000) (w : World) (h : Blk w po #[.int .i64 n] 3) :
    Calls Try.prog 32 #[.pointer (some ⟨po, 0, none⟩)] w fun e w' => Tame .ok e ∧ Fr (fun k => k = po) w w' ∧ Blk w' po #[.int .i64 (n + 1)] 3 := by
  have c := h.cell 0
  have f := h.frozen
  go_enter Try.func32, Try.ntmps32
  go_wp2
  go_end0
  exact ⟨⟨_, rfl⟩, (Fr.refl (fun k => k = po) w).setCell (p := ⟨po, 0, none⟩) (fun _ => rfl) _, h.set 0 _⟩

/-- what stands between the outer row's two deeds -/
structure NestI (w0 : World) (pm : Nat) (cm : Value) (a : Option Addr) (len cap : Nat) (K A : Nat → Int) (pl ps pi po pf N : Nat) (k : Nat) (F : Nat → Prop) (w : World) : Prop where
  l : Blk w pl #[.slice a len cap] 32
  x : Blk w pm #[cm] 32
  d : Deeds2 w a len K A
  i : Blk w pi #[.int .i64 (if k = 0 then 0 else firstStop (fun i => outD (K i) (A i)) (min len 6) 0 : Nat)] 3
  f : Blk w pf #[.int .i64 (if k = 0 then 0 else (firstS (fun i => outD (K i) (A i)) (min len 6)).why), .int .i64 (if k = 0 then 0 else (firstS (fun i => outD (K i) (A i)) (min len 6)).at)] 23
  o : Blk w po #[.int .i64 (if k = 2 then 1 else 0)] 3
  s : ∃ v n xs, n ≤ 6 ∧ Blk w ps #[v] 27 ∧ Own w 3 1 n v xs ∧ (k = 0 → v = .slice none 0 0) ∧ (∀ x, F x ↔ (x < N ∨ Of v x)) ∧ ∀ x, Of v x → N ≤ x
  lt : pm < N ∧ pl < N ∧ ps < N ∧ pi < N ∧ po < N ∧ pf < N ∧ w0.heap.size ≤ N ∧ N ≤ w.heap.size ∧ ∀ b off, a = some ⟨b, off, none⟩ → b < w0.heap.size ∨ len = 0
  nw : w0.heap.size ≤ ps ∧ w0.heap.size ≤ pi ∧ w0.heap.size ≤ po ∧ w0.heap.size ≤ pf
  fr : Fr (fun _ => False) w0 w

theorem nest_deeds (w0 : World) (pm : Nat) (cm : Value) (a : Option Addr) (len cap : Nat) (K A : Nat → Int) (pl ps pi po pf N : Nat) (hlc : len ≤ cap) (hcm : cap ≤ 9223372036854775807) (hpo : po ≠ pi) :
    Deeds [(30, #[.pointer (some ⟨pl, 0, none⟩), .pointer (some ⟨ps, 0, none⟩), .pointer (some ⟨pi, 0, none⟩), .pointer (some ⟨pf, 0, none⟩)]), (32, #[.pointer (some ⟨po, 0, none⟩)])]
      (fun _ => .ok) (NestI w0 pm cm a len cap K A pl ps pi po pf N) where
  enter := by
    intro i p h w
    match i, h with
    | 0, h => simp at h; subst h; simp [go_sem]
    | 1, h => simp at h; subst h; simp [go_sem]
    | n + 2, h => simp at h
  stable := by
    rintro i F w w' ⟨hl, hx0, hd, hi, hf, ho, ⟨v, n, xs, hn, h1, h2, h3, h4, h5⟩, hlt, hnw, hfr⟩ g
    have lt : ∀ x, x < N → ¬ ¬ F x := fun x hx h => h ((h4 x).2 (.inl hx))
    obtain ⟨l0, l1, l2, l3, l4, l5, l6, l7, l8⟩ := hlt
    refine ⟨hl.fr g (lt _ l1), hx0.fr g (lt _ l0), ?_, hi.fr g (lt _ l3), hf.fr g (lt _ l5), ho.fr g (lt _ l4), ⟨v, n, xs, hn, h1.fr g (lt _ l2), h2.fr g (fun x hx h => h ((h4 x).2 (.inr hx))), h3, h4, h5⟩, ⟨l0, l1, l2, l3, l4, l5, l6, Nat.le_trans l7 g.size, l8⟩, hnw, ?_⟩
    · rcases Nat.eq_zero_or_pos len with hz | hz
      · exact .inl hz
      · exact hd.fr g (fun b off ha _ => lt _ (by rcases l8 b off ha with h | h <;> omega))
    · exact hfr.step g (fun x hx h => lt x (by omega) h)
  lt := by
    rintro i F w ⟨hl, hx0, hd, hi, hf, ho, ⟨v, n, xs, hn, h1, h2, h3, h4, h5⟩, hlt, hnw, hfr⟩ x hx
    rcases (h4 x).1 hx with h | h
    · have := hlt.2.2.2.2.2.2.2.1; omega
    · exact h2.lt h
  run := by
    rintro i p hp hj F w ⟨hl, hx0, hd, hi, hf, ho, ⟨v, n, xs, hn, h1, h2, h3, h4, h5⟩, hlt, hnw, hfr⟩
    obtain ⟨l0, l1, l2, l3, l4, l5, l6, l7, l8⟩ := hlt
    obtain ⟨m1, m2, m3, m4⟩ := hnw
    match i, hp with
    | 0, hp =>
      simp at hp
      subst hp
      obtain rfl := h3 rfl
      have xs1 : pm ≠ ps := hx0.ne h1 (.inr (by decide))
      have xs2 : pm ≠ pi := hx0.ne hi (.inr (by decide))
      have xs3 : pm ≠ pf := hx0.ne hf (.inr (by decide))
      have nsl : pl ≠ ps := hl.ne h1 (.inr (by decide))
      have nil_ : pl ≠ pi := hl.ne hi (.inr (by decide))
      have nfl : pl ≠ pf := hl.ne hf (.inr (by decide))
      have nos : po ≠ ps := ho.ne h1 (.inr (by decide))
      have nof : po ≠ pf := ho.ne hf (.inr (by decide))
      refine (nestInner a len cap K A pl ps pi pf w hlc hcm hd hl h1 hi hf).mono ?_
      rintro e w' ⟨ht, g, gi, gf, v', n', xs', hn', g1, g2, g3⟩
      refine ⟨ht, g.mono (fun x _ h => (h4 x).2 (.inl (by rcases h with rfl | rfl | rfl <;> assumption))), fun x => x < N ∨ Of v' x, ⟨hl.fr g (by omega), hx0.fr g (by omega), ?_, gi, gf, ho.fr g (by omega), ⟨v', n', xs', hn', g1, g2, fun h => by omega, fun x => Iff.rfl, fun x hx => Nat.le_trans l7 (g3 x hx)⟩, ⟨l0, l1, l2, l3, l4, l5, l6, Nat.le_trans l7 g.size, l8⟩, ⟨m1, m2, m3, m4⟩, ?_⟩, ?_⟩
      · rcases Nat.eq_zero_or_pos len with hz | hz
        · exact .inl hz
        · exact hd.fr g (fun b off ha _ h => by rcases l8 b off ha with h' | h' <;> rcases h with h | h | h <;> omega)
      · exact hfr.step g (fun x hx h => by rcases h with h | h | h <;> omega)
      · rintro x (h | h)
        · exact .inl ((h4 x).2 (.inl h))
        · exact .inr (g3 x h)
    | 1, hp =>
      simp at hp
      subst hp
      have nls : pl ≠ po := hl.ne ho (.inr (by decide))
      have nss : ps ≠ po := h1.ne ho (.inr (by decide))
      have nsf : pf ≠ po := hf.ne ho (.inr (by decide))
      refine (nestOuter po 0 (by omega) (by omega) w ho).mono ?_
      rintro e w' ⟨ht, g, go_⟩
      refine ⟨ht, g.mono (fun x _ h => (h4 x).2 (.inl (by omega))), F, ⟨hl.fr g nls, hx0.fr g (hx0.ne ho (.inr (by decide))), ?_, hi.fr g (fun h => hpo h.symm), hf.fr g nsf, go_, ⟨v, n, xs, hn, h1.fr g nss, h2.fr g (fun x hx h => by have := h5 x hx; omega), fun h => by omega, h4, h5⟩, ⟨l0, l1, l2, l3, l4, l5, l6, Nat.le_trans l7 g.size, l8⟩, ⟨m1, m2, m3, m4⟩, ?_⟩, fun x hx => .inl hx⟩
      · rcases Nat.eq_zero_or_pos len with hz | hz
        · exact .inl hz
        · exact hd.fr g (fun b off ha _ h => by rcases l8 b off ha with h' | h' <;> omega)
      · exact hfr.step g (fun x hx h => by omega)
    | n + 2, hp => simp at hp

theorem nestLast (pm ps : Nat) (a : Option Addr) (len cap : Nat) (K A : Nat → Int) (v : Value) (n : Nat) (xs : List Value) (w : World) (hlen : 0 < len) (_hc : len ≤ cap) (hm : Blk w pm #[.slice a len cap] 32) (hd : Deeds2 w a len K A)
    (hb : Blk w ps #[v] 27) (ho : Own w 3 1 n v xs) (hn : n ≤ 1000000) :
    Calls Try.prog 34 #[.pointer (some ⟨pm, 0, none⟩), .pointer (some ⟨ps, 0, none⟩)] w fun e w' =>
      Tame (outD (K 0) (A 0)) e ∧ ∃ v', Blk w' ps #[v'] 27 ∧ Own w' 3 1 (n + 1) v' (xs ++ [.int .i64 0]) ∧ Fr (fun j => j = ps ∨ Of v j) w w' ∧ ∀ j, Of v' j → Of v j ∨ w.heap.size ≤ j := by
  have cm := hm.cell 0
  rcases hd with h | ⟨b, off, rfl, hbw, hc⟩
  · omega
  have c0 := (hc 0 hlen).1
  have c1 := (hc 0 hlen).2
  rw [Nat.zero_mul, Nat.add_zero] at c0 c1
  have H := Lib.hid (act_any (K 0) (A 0) 0 ps v n xs w (by omega) (by omega) hb ho hn)
  clear hc
  go_enter Try.func34, Try.ntmps34
  go_wp2_with fail
  refine H.out.mono ?_
  intro e w' h
  have H := Lib.hid h
  clear h
  cases e with
  | returned u =>
    dsimp only
    go_wp2_with fail
    go_end0
    exact ⟨H.out.1.ret, H.out.2⟩
  | panicked chain => exact ⟨rfl, H.out⟩
  | outgrown => exact H.out.1.no.elim

/-- what the last deed stands on -/
def Foot (pm ps : Nat) (a : Option Addr) (v : Value) (x : Nat) : Prop := x = pm ∨ x = ps ∨ (∃ off, a = some ⟨x, off, none⟩) ∨ Of v x

/-- the state round the last deed -/
structure LastI (w0 W : World) (a : Option Addr) (len cap : Nat) (K A : Nat → Int) (pm ps : Nat) (k : Nat) (F : Nat → Prop) (w : World) : Prop where
  m : Blk w pm #[.slice a len cap] 32
  d : Deeds2 w a len K A
  s : ∃ v n xs, n ≤ 10 + k ∧ Blk w ps #[v] 27 ∧ Own w 3 1 n v xs ∧ (∀ x, F x ↔ Foot pm ps a v x) ∧ ∀ x, Of v x → w0.heap.size ≤ x
  lt : w0.heap.size ≤ ps ∧ (∀ b off, a = some ⟨b, off, none⟩ → b < w0.heap.size) ∧ w0.heap.size ≤ w.heap.size
  same : ∀ x, (x = pm ∨ ∃ off, a = some ⟨x, off, none⟩) → w.heap[x]? = W.heap[x]?

theorem last_deeds (w0 W : World) (a : Option Addr) (len cap : Nat) (K A : Nat → Int) (pm ps : Nat) (hlen : 0 < len) (hlc : len ≤ cap) :
    Deeds [(34, #[.pointer (some ⟨pm, 0, none⟩), .pointer (some ⟨ps, 0, none⟩)])] (fun _ => outD (K 0) (A 0)) (LastI w0 W a len cap K A pm ps) where
  enter := by
    intro i p h w
    match i, h with
    | 0, h => simp at h; subst h; simp [go_sem]
    | n + 1, h => simp at h
  stable := by
    rintro i F w w' ⟨hm, hd, ⟨v, n, xs, hn, h1, h2, h4, h5⟩, ⟨l3, l6, l7⟩, hsm⟩ g
    have ha : ∀ b off, a = some ⟨b, off, none⟩ → b < w.heap.size → ¬ ¬ F b := fun b off ha _ h => h ((h4 _).2 (.inr (.inr (.inl ⟨off, ha⟩))))
    have hp : ¬ ¬ F pm := fun h => h ((h4 _).2 (.inl rfl))
    refine ⟨hm.fr g hp, hd.fr g ha, ⟨v, n, xs, hn, h1.fr g (fun h => h ((h4 _).2 (.inr (.inl rfl)))), h2.fr g (fun x hx h => h ((h4 x).2 (.inr (.inr (.inr hx))))), h4, h5⟩, ⟨l3, l6, Nat.le_trans l7 g.size⟩, ?_⟩
    rintro x (rfl | ⟨off, h⟩)
    · exact (g.block x hm.lt hp).trans (hsm x (.inl rfl))
    · exact (g.block x (by have := l6 _ _ h; omega) (ha x off h (by have := l6 _ _ h; omega))).trans (hsm x (.inr ⟨off, h⟩))
  lt := by
    rintro i F w ⟨hm, hd, ⟨v, n, xs, hn, h1, h2, h4, h5⟩, ⟨l3, l6, l7⟩, hsm⟩ x hx
    rcases (h4 x).1 hx with rfl | rfl | ⟨off, h⟩ | h
    · exact hm.lt
    · exact h1.lt
    · have := l6 _ _ h; omega
    · exact h2.lt h
  run := by
    rintro i p hp hj F w ⟨hm, hd, ⟨v, n, xs, hn, h1, h2, h4, h5⟩, ⟨l3, l6, l7⟩, hsm⟩
    match i, hp with
    | 0, hp =>
      simp at hp
      subst hp
      have nms : pm ≠ ps := hm.ne h1 (.inr (by decide))
      refine (nestLast pm ps a len cap K A v n xs w hlen hlc hm hd h1 h2 (by omega)).mono ?_
      rintro e w' ⟨ht, v', g1, g2, g, g3⟩
      have nov : ¬ Of v pm := h2.ne hm (by decide)
      have noa : ∀ b off, a = some ⟨b, off, none⟩ → b < w.heap.size → ¬ (b = ps ∨ Of v b) := by
        rintro b off ha hb (h | h)
        · have := l6 b off ha; omega
        · have := l6 b off ha; have := h5 _ h; omega
      refine ⟨ht, g.mono (fun x _ h => (h4 x).2 (h.elim (fun h => .inr (.inl h)) (fun h => .inr (.inr (.inr h))))), Foot pm ps a v', ⟨hm.fr g (fun h => h.elim nms nov), hd.fr g noa, ⟨v', n + 1, _, by omega, g1, g2, fun x => Iff.rfl, fun x hx => (g3 x hx).elim (h5 x) (fun h => by omega)⟩, ⟨l3, l6, Nat.le_trans l7 g.size⟩, ?_⟩, ?_⟩
      · rintro x (rfl | ⟨off, h⟩)
        · exact (g.block x hm.lt (fun h => h.elim nms nov)).trans (hsm x (.inl rfl))
        · exact (g.block x (by have := l6 _ _ h; omega) (noa x off h (by have := l6 _ _ h; omega))).trans (hsm x (.inr ⟨off, h⟩))
      · rintro x (h | h | h | h)
        · exact .inl ((h4 x).2 (.inl h))
        · exact .inl ((h4 x).2 (.inr (.inl h)))
        · exact .inl ((h4 x).2 (.inr (.inr (.inl h))))
        · exact (g3 x h).imp (fun h => (h4 x).2 (.inr (.inr (.inr h)))) id
    | n + 1, hp => simp at hp

set_option maxRecDepth 100000 in
theorem nestGuarded (w0 : World) (a : Option Addr) (len cap : Nat) (K A : Nat → Int) (pm ps : Nat) (v : Value) (n : Nat) (xs : List Value) (w : World) (hlen : 0 < len) (hlc : len ≤ cap) (hm : Blk w pm #[.slice a len cap] 32) (hd : Deeds2 w a len K A)
    (hn : n ≤ 10) (h1 : Blk w ps #[v] 27) (h2 : Own w 3 1 n v xs) (h5 : ∀ x, Of v x → w0.heap.size ≤ x) (h3 : w0.heap.size ≤ ps) (h6 : ∀ b off, a = some ⟨b, off, none⟩ → b < w0.heap.size) (hsz : w0.heap.size ≤ w.heap.size) :
    Calls Try.prog 33 #[.pointer (some ⟨pm, 0, none⟩), .pointer (some ⟨ps, 0, none⟩)] w fun e w' => Tame .ok e ∧ Fr (fun k => k = ps ∨ Of v k) w w' := by
  have hmf : ∀ (fn : Fn) (first cap : Array Value) (w : World), (Instr.makeFunc fn first cap).run Try.prog w = .ok (.func fn first cap) w := fun _ _ _ _ => rfl
  have g : Fr (fun _ => False) w (w.alloc (.cells #[.func (.func 34) #[] #[.pointer (some ⟨pm, 0, none⟩), .pointer (some ⟨ps, 0, none⟩)]] 1)) := (Fr.refl _ w).alloc _
  have R := Lib.hid (run_of _ _ _ (last_deeds w0 w a len cap K A pm ps hlen hlc) (Foot pm ps a v) (w.alloc (.cells #[.func (.func 34) #[] #[.pointer (some ⟨pm, 0, none⟩), .pointer (some ⟨ps, 0, none⟩)]] 1)) w.heap.size 1 1 rfl (by omega)
    ⟨hm.fr g id, hd.fr g (fun _ _ _ _ => id), ⟨v, n, xs, by omega, h1.fr g id, h2.fr g (fun _ _ => id), fun x => Iff.rfl, h5⟩, ⟨h3, h6, by simp; omega⟩, fun x hx => g.block x (hx.elim (fun h => h ▸ hm.lt) (fun ⟨off, h⟩ => by have := h6 _ _ h; omega)) id⟩ (by simp)
    (fun h => by
      rcases h with h | h | ⟨off, h⟩ | h
      · have := hm.lt; omega
      · have := h1.lt; omega
      · have := h6 _ _ h; omega
      · have := h2.lt h; omega)
    (by
      intro j p hp
      match j, hp with
      | 0, hp => simp at hp; subst hp; simp
      | j + 1, hp => simp at hp))
  have H1 := Lib.hid (show ∀ x, Foot pm ps a v x → ¬ (x = ps ∨ Of v x) → (x = pm ∨ ∃ off, a = some ⟨x, off, none⟩) from fun x hx hn => by
    rcases hx with h | h | h | h
    · exact .inl h
    · exact absurd (.inl h) hn
    · exact .inr h
    · exact absurd (.inr h) hn)
  clear hm hd h1 h2 h5 g
  go_enter Try.func33, Try.ntmps33
  go_wp2_with fail
  refine R.out.mono ?_
  rintro e w' ⟨f, F, t, hf, rfl, ht, ⟨_, _, _, _, hsm⟩, hF, fr⟩
  have G := Lib.hid fr
  have G2 := Lib.hid hsm
  clear fr hf ht hF hsm
  go_wp2_with fail
  go_end0
  refine ⟨⟨_, rfl⟩, G.out.os, G.out.tape, G.out.output, ?_, ?_⟩
  · have := G.out.size; simp at this; omega
  · intro k hk hs
    by_cases hF : Foot pm ps a v k
    · exact G2.out k (H1.out k hF hs)
    · exact (G.out.block k (by simp; omega) hF).trans (Below.heap_alloc _ _ _ hk)
end Go.Proofs.Ytbjfgcabomgdbaa
