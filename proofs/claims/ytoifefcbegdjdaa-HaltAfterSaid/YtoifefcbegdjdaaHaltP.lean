import Derived.Test.YtoifefcbegdjdaaAct
import Derived.Test.YtoifefcbegdjdaaGuard
namespace Go.Proofs.Ytoifefcbegdjdaa
open Go.RowKit

/-- what comes of two, the second behind the first -/
def comb (s1 s2 : Stp) : Stp := match s2 with
  | .ok => s1
  | s => s

theorem drop_app {l m : List PanicEntry} (h1 : l.dropWhile (!·.goexit) = []) (h2 : m.dropWhile (!·.goexit) = []) : (l ++ m).dropWhile (!·.goexit) = [] := by
  induction l with
  | nil => exact h2
  | cons a l ih =>
    simp only [List.cons_append, List.dropWhile_cons] at h1 ⊢
    split at h1
    · rename_i h; simp only [h]; exact ih h1
    · simp at h1

theorem func_notnil (fn : Fn) (first cap : Array Value) (w : World) : (binOp .neq 1 (.func fn first cap) .nilFunc).run Try.prog w = .ok (.bool true) w := by kernel_rfl

/-- the closure under CallsD, whatever the mode of who calls -/
def LastD (g : FuncId) (cap : Array Value) (w : World) (s : Stp) (Post : World → Prop) : Prop :=
  ∀ u, CallsD Try.prog g cap u w fun e u' w' => u' = u ∧ Tame s e ∧ Post w'

set_option maxRecDepth 100000 in
theorem after_any (g1 g2 : FuncId) (c1 c2 : Array Value) (w : World) (s1 s2 : Stp) (P1 P2 : World → Prop)
    (h1 : ∀ w, (callFunc g1 c1).run Try.prog w = .ok (.enter g1 c1) w) (h2 : ∀ w, (invoke (.fn (.func g2) c2) #[]).run Try.prog w = .ok (.enter g2 c2) w)
    (k1 : Calls Try.prog g1 c1 w fun e w' => Tame s1 e ∧ P1 w') (k2 : ∀ w', P1 w' → LastD g2 c2 w' s2 P2) :
    Calls Try.prog 16 #[.func (.func g1) #[] c1, .func (.func g2) #[] c2] w fun e w' => Tame (comb s1 s2) e ∧ P2 w' := by
  have hfn := func_notnil
  have K1 := Lib.hid k1
  have K2 := Lib.hid k2
  clear k1 k2
  go_enter_defers Try.func16, Try.ntmps16
  go_wp2_with fail
  refine K1.out.mono ?_
  intro e w1 hr
  cases s1 with
  | ok =>
    obtain ⟨⟨v, rfl⟩, hp⟩ := hr
    have HL := Lib.hid (K2.out _ hp)
    clear hp
    go_wp2_with fail
    refine leaves_cons (f := g2) (args := c2) (by simp) (h2 _) ?_
    refine (HL.out _).mono ?_
    rintro e u' w2 ⟨rfl, ht, hp⟩
    cases s2 with
    | ok =>
      obtain ⟨v2, rfl⟩ := ht
      exact ⟨.tuple #[], by simp [results], ⟨_, rfl⟩, hp⟩
    | stop a2 b2 =>
      obtain ⟨o2, rfl, hg2⟩ := ht
      exact ⟨⟨o2, rfl, hg2⟩, hp⟩
    | other =>
      obtain ⟨T2, v2, o2, rfl, hT2, hg2⟩ := ht
      exact ⟨⟨T2, v2, o2, rfl, hT2, hg2⟩, hp⟩
  | stop a b =>
    obtain ⟨⟨older, rfl, hgo⟩, hp⟩ := hr
    have HL := Lib.hid (K2.out _ hp)
    clear hp
    go_wp2_with fail
    refine leaves_cons (f := g2) (args := c2) (by simp) (h2 _) ?_
    refine (HL.out _).mono ?_
    rintro e u' w2 ⟨rfl, ht, hp⟩
    cases s2 with
    | ok =>
      obtain ⟨v2, rfl⟩ := ht
      exact ⟨⟨older, rfl, hgo⟩, hp⟩
    | stop a2 b2 =>
      obtain ⟨o2, rfl, hg2⟩ := ht
      exact ⟨⟨o2 ++ _, rfl, drop_app hg2 (by simp [hgo])⟩, hp⟩
    | other =>
      obtain ⟨T2, v2, o2, rfl, hT2, hg2⟩ := ht
      exact ⟨⟨T2, v2, o2 ++ _, rfl, hT2, drop_app hg2 (by simp [hgo])⟩, hp⟩
  | other =>
    obtain ⟨⟨T, v, older, rfl, hT, hgo⟩, hp⟩ := hr
    have HL := Lib.hid (K2.out _ hp)
    clear hp
    go_wp2_with fail
    refine leaves_cons (f := g2) (args := c2) (by simp) (h2 _) ?_
    refine (HL.out _).mono ?_
    rintro e u' w2 ⟨rfl, ht, hp⟩
    cases s2 with
    | ok =>
      obtain ⟨v2, rfl⟩ := ht
      exact ⟨⟨T, v, older, rfl, hT, hgo⟩, hp⟩
    | stop a2 b2 =>
      obtain ⟨o2, rfl, hg2⟩ := ht
      exact ⟨⟨o2 ++ _, rfl, drop_app hg2 (by simp [hgo])⟩, hp⟩
    | other =>
      obtain ⟨T2, v2, o2, rfl, hT2, hg2⟩ := ht
      exact ⟨⟨T2, v2, o2 ++ _, rfl, hT2, drop_app hg2 (by simp [hgo])⟩, hp⟩

set_option maxRecDepth 100000 in
/-- appends a captured number -/
theorem lastAppend (j : Int) (bs bj : Nat) (v : Value) (n : Nat) (xs : List Value) (w : World) (hb : Blk w bs #[v] 24) (hj : Blk w bj #[.int .i64 j] 3) (ho : Own w 3 1 n v xs) (hn : n ≤ 1000000) :
    LastD 17 #[.pointer (some ⟨bs, 0, none⟩), .pointer (some ⟨bj, 0, none⟩)] w .ok fun w' =>
      ∃ v', Blk w' bs #[v'] 24 ∧ Own w' 3 1 (n + 1) v' (xs ++ [.int .i64 j]) ∧ Fr (fun k => k = bs ∨ Of v k) w w' ∧ ∀ k, Of v' k → Of v k ∨ w.heap.size ≤ k := by
  obtain ⟨i0, hif, hz0, hz1, hz2⟩ := info_parts info_int
  intro u
  have c0 := hb.cell 0
  have c1 := hj.cell 0
  have lb := hb.lt
  have HB := Lib.hid hb
  have HO := Lib.hid ho
  have O1 := ho.fr ((Fr.refl (fun _ => False) w).alloc (.cells #[.int .i64 j] 3)) (fun _ _ => id)
  have hnb : ¬ Of v bs := ho.ne hb (by decide)
  have HNB := Lib.hid hnb
  clear hb hj ho hnb
  refine callsD_of_wp Try.func17 rfl ?_
  simp only [Try.ntmps17, List.size_toArray, List.length_cons, List.length_nil, Nat.reduceAdd, Nat.reduceSub, Array.replicate_succ,
     Array.replicate_zero, List.push_toArray, List.append_toArray, List.nil_append, List.cons_append]
  go_wp2_with (at_builtin; refine wpList_append1 rfl _ _ 24 rfl 3 i0 (.int .i64 0) 8 Try.underlying24 hif hz0 hz1 hz2 rfl (by decide) _ _ _ rfl _ _ O1 w.heap.size rfl rfl rfl (by omega) ?_; intro v' w2 O2 F2 hv'; obtain ⟨gv, cv, hve, _⟩ : ∃ gv cv, v' = .slice (some ⟨gv, 0, none⟩) (n + 1) cv ∧ True := (O2.cases.elim (fun h => absurd h.2.1 (by omega)) (fun ⟨g, c, h, _⟩ => ⟨g, c, h, trivial⟩)); subst hve; have B2 := (HB.out.alloc (.cells #[.int .i64 j] 3)).fr F2 HNB.out; have d0 := B2.cell 0; have df := B2.frozen 0; have dl := B2.lt; have HO2 := Lib.hid O2; have HF2 := Lib.hid F2; have HV2 := Lib.hid hv'; have HB2 := Lib.hid B2; clear O2 F2 hv' B2)
  go_end0
  refine ⟨⟨_, rfl⟩, _, HB2.out.set 0 _, HO2.out.fr (Fr.set1 _ _ _ _) (fun k hk e => ?_), ?_, ?_⟩
  · subst e; exact HO2.out.ne HB2.out (by decide) hk
  · exact ((Fr.refl (fun k => k = bs ∨ Of v k) w).alloc _ |>.step HF2.out (fun _ _ h => .inr h)).setCell (fun _ => .inl rfl) _
  · intro k hk
    rcases HV2.out k hk with h | h
    · exact .inl h
    · exact .inr h

set_option maxRecDepth 100000 in
/-- does a captured deed by number 9 -/
theorem lastDeed (k a : Int) (bs bd : Nat) (v : Value) (n : Nat) (xs : List Value) (w : World) (hd : Blk w bd #[.int .i64 k, .int .i64 a] 23) (hb : Blk w bs #[v] 24) (ho : Own w 3 1 n v xs) (hn : n ≤ 1000000) :
    LastD 20 #[.pointer (some ⟨bd, 0, none⟩), .pointer (some ⟨bs, 0, none⟩)] w (outD k a) fun w' =>
      ∃ v', Blk w' bs #[v'] 24 ∧ Own w' 3 1 (n + 1) v' (xs ++ [.int .i64 9]) ∧ Fr (fun k => k = bs ∨ Of v k) w w' ∧ ∀ k, Of v' k → Of v k ∨ w.heap.size ≤ k := by
  intro u
  have c0 := hd.cell 0
  have c1 := hd.cell 1
  refine callsD_of_wp Try.func20 rfl ?_
  simp only [Try.ntmps20, List.size_toArray, List.length_cons, List.length_nil, Nat.reduceAdd, Nat.reduceSub, Array.replicate_succ,
     Array.replicate_zero, List.push_toArray, List.append_toArray, List.nil_append, List.cons_append]
  go_wp2_with fail
  refine (act_any k a 9 bs v n xs w (by omega) (by omega) hb ho hn).mono ?_
  intro e w' h
  have H := Lib.hid h
  clear h
  cases e with
  | returned u =>
    dsimp only
    go_wp2_with fail
    go_end0
    exact ⟨H.out.1.ret, H.out.2⟩
  | panicked chain => exact ⟨rfl, H.out⟩
  | outgrown => exact H.out.1.no.elim

set_option maxRecDepth 100000 in
theorem first_deed (k a : Int) (bd bs : Nat) (v : Value) (n : Nat) (xs : List Value) (w : World) (hd : Blk w bd #[.int .i64 k, .int .i64 a] 23)
    (hb : Blk w bs #[v] 24) (ho : Own w 3 1 n v xs) (hn : n ≤ 1000000) :
    Calls Try.prog 12 #[.pointer (some ⟨bd, 0, none⟩), .pointer (some ⟨bs, 0, none⟩)] w fun e w' =>
      Tame (outD k a) e ∧ ∃ v', Blk w' bs #[v'] 24 ∧ Own w' 3 1 (n + 1) v' (xs ++ [.int .i64 0]) ∧ Fr (fun j => j = bs ∨ Of v j) w w' ∧ ∀ j, Of v' j → Of v j ∨ w.heap.size ≤ j := by
  have c0 := hd.cell 0
  have c1 := hd.cell 1
  go_enter Try.func12, Try.ntmps12
  go_wp2_with fail
  refine (act_any k a 0 bs v n xs w (by omega) (by omega) hb ho hn).mono ?_
  intro e w' h
  have H := Lib.hid h
  clear h
  cases e with
  | returned u =>
    dsimp only
    go_wp2_with fail
    go_end0
    exact ⟨H.out.1.ret, H.out.2⟩
  | panicked chain => exact ⟨rfl, H.out⟩
  | outgrown => exact H.out.1.no.elim

/-- the numbers below k, as values -/
def upto (k : Nat) : List Value := (List.range k).map fun (i : Nat) => .int .i64 (i : Int)
theorem upto_succ (k : Nat) : upto (k + 1) = upto k ++ [.int .i64 k] := by simp [upto, List.range_succ]
theorem upto_get (k j : Nat) (h : j < k) : (upto k)[j]? = some (.int .i64 j) := by simp [upto, h]
theorem upto_len (k : Nat) : (upto k).length = k := by simp [upto]

/-- the closure of level i -/
def lvl (bd bs : Nat) (gb jb : Nat → Nat) : Nat → Value
  | 0 => .func (.func 12) #[] #[.pointer (some ⟨bd, 0, none⟩), .pointer (some ⟨bs, 0, none⟩)]
  | i + 1 => .func (.func 15) #[] #[.pointer (some ⟨gb i, 0, none⟩), .pointer (some ⟨bs, 0, none⟩), .pointer (some ⟨jb i, 0, none⟩)]

/-- what the closures see -/
structure Lv (bd bs : Nat) (gb jb : Nat → Nat) (K A : Int) (m : Nat) (w : World) : Prop where
  d : Blk w bd #[.int .i64 K, .int .i64 A] 23
  g : ∀ i, i < m → Blk w (gb i) #[lvl bd bs gb jb i] 1
  j : ∀ i, i < m → Blk w (jb i) #[.int .i64 ((i : Int) + 1)] 3

theorem Lv.fr {bd bs : Nat} {gb jb : Nat → Nat} {K A : Int} {m : Nat} {w w' : World} {S : Nat → Prop} (h : Lv bd bs gb jb K A m w) (f : Fr S w w') (hs : ∀ k, S k → k ≠ bd ∧ ∀ i, i < m → k ≠ gb i ∧ k ≠ jb i) : Lv bd bs gb jb K A m w' :=
  ⟨h.d.fr f (fun e => (hs _ e).1 rfl), fun i hi => (h.g i hi).fr f (fun e => ((hs _ e).2 i hi).1 rfl), fun i hi => (h.j i hi).fr f (fun e => ((hs _ e).2 i hi).2 rfl)⟩

/-- calls of a closure's value -/
def Does (fv : Value) (w : World) (R : Ending → World → Prop) : Prop :=
  ∃ g c, fv = .func (.func g) #[] c ∧ (∀ w, (callFunc g c).run Try.prog w = .ok (.enter g c) w) ∧ Calls Try.prog g c w R

theorem level (bd bs : Nat) (gb jb : Nat → Nat) (K A : Int) (m : Nat) (hm : m ≤ 100) :
    ∀ i, i ≤ m → ∀ (w : World), Lv bd bs gb jb K A m w → Blk w bs #[.slice none 0 0] 24 →
      Does (lvl bd bs gb jb i) w fun e w' => Tame (outD K A) e ∧ ∃ v', Blk w' bs #[v'] 24 ∧ Own w' 3 1 (i + 1) v' (upto (i + 1)) ∧ Fr (fun j => j = bs) w w' ∧ ∀ k, Of v' k → w.heap.size ≤ k := by
  intro i
  induction i with
  | zero =>
    intro _ w hL hb
    refine ⟨_, _, rfl, fun w => by simp [go_sem], (first_deed K A bd bs _ 0 [] w hL.d hb (Own.nil _ _ _) (by omega)).mono ?_⟩
    rintro e w' ⟨ht, v', b1, o1, f1, hv⟩
    refine ⟨ht, v', b1, o1, f1.mono (fun k _ h => h.elim id (fun h => by simp [Of, Value.ownBlock] at h)), fun k hk => ?_⟩
    rcases hv k hk with h | h
    · simp [Of, Value.ownBlock] at h
    · omega
  | succ i ih =>
    intro hi w hL hb
    have hn1 : ∀ q, q < m → gb q ≠ bs := fun q hq => (hL.g q hq).ne hb (.inr (by decide))
    have hn2 : ∀ q, q < m → jb q ≠ bs := fun q hq => (hL.j q hq).ne hb (.inr (by decide))
    have hn3 : bd ≠ bs := hL.d.ne hb (.inr (by decide))
    obtain ⟨g, c, e1, hc, hcall⟩ := ih (by omega) w hL hb
    refine ⟨_, _, rfl, fun w => by simp [go_sem], ?_⟩
    have g0 := (hL.g i (by omega)).cell 0
    rw [e1] at g0
    have hmf : ∀ (fn : Fn) (first cap : Array Value) (w : World), (Instr.makeFunc fn first cap).run Try.prog w = .ok (.func fn first cap) w := fun _ _ _ _ => rfl
    have HC := Lib.hid hcall
    have HH := Lib.hid hc
    have HL := Lib.hid hL
    have HN1 := Lib.hid hn1
    have HN2 := Lib.hid hn2
    clear hcall hc hL hb e1 hn1 hn2 ih
    go_enter Try.func15, Try.ntmps15
    go_wp2_with fail
    refine (after_any g 17 c _ w (outD K A) .ok _ (fun w' => ∃ v', Blk w' bs #[v'] 24 ∧ Own w' 3 1 (i + 1 + 1) v' (upto (i + 1 + 1)) ∧ Fr (fun j => j = bs) w w' ∧ ∀ k, Of v' k → w.heap.size ≤ k) HH.out (fun w => by simp [go_sem]) HC.out ?_).mono ?_
    · rintro w1 ⟨v', b1, o1, f1, hv⟩
      have j1 := (HL.out.j i (by omega)).fr f1 (HN2.out i (by omega))
      have L := lastAppend ((i : Int) + 1) bs (jb i) v' (i + 1) (upto (i + 1)) w1 b1 j1 o1 (by omega)
      intro u
      refine (L u).mono ?_
      rintro e u' w2 ⟨hu, ht, v2, b2, o2, f2, hv2⟩
      refine ⟨hu, ht, v2, b2, ?_, ?_, fun k hk => ?_⟩
      · rw [upto_succ]; exact o2
      · exact f1.step f2 (fun k hk h => by
          rcases h with h | h
          · exact h
          · have := hv k h; omega)
      · rcases hv2 k hk with h | h
        · exact hv k h
        · have := f1.size; omega
    · intro e w' h
      have H := Lib.hid h
      clear h
      cases e with
      | returned u =>
        dsimp only
        go_wp2_with fail
        go_end0
        exact ⟨H.out.1.ret, H.out.2⟩
      | panicked chain => exact ⟨rfl, H.out⟩
      | outgrown => exact H.out.1.no.elim
end Go.Proofs.Ytoifefcbegdjdaa
