import Derived.Test.YtkclbgoagcpckaaHartQ
namespace Go.Proofs.Ytkclbgoagcpckaa
open Go.RowKit

theorem hartPlays1_bad (n : Int) (hn : n < 1 ∨ 8 < n) (bn bx : Nat) (w : World) (Bn : Blk w bn #[.int .i64 n] 3) :
    Calls Try.prog 34 #[.pointer (some ⟨bn, 0, none⟩), .pointer (some ⟨bx, 0, none⟩)] w fun e w' => Tame (.stop 3 n) e ∧ Fr (fun _ => False) w w' := by
  have n0 := Bn.cell 0
  have HC := Lib.hid (hart_new_no n hn w)
  clear Bn hn
  go_enter Try.func34, Try.ntmps34
  go_wp2_with (go_at_call 23; (with_reducible refine HC.out.mono ?_); rintro e w' ⟨rfl, rfl⟩)
  exact ⟨rfl, ⟨[], rfl, rfl⟩, Fr.refl _ _⟩

set_option maxHeartbeats 2000000 in
set_option maxRecDepth 100000 in
theorem hartPlays2 {x g n : Nat} {F : Nat → HOne} {w : World} (H : HartsB w x g n F) {bq bx bg bt : Nat} {kind h m : Int} {on : Bool} {s : Stp} {got : Int} {took : Bool} {F' : Nat → HOne}
    (Bq : Blk w bq #[.int .i64 kind, .int .i64 h, .int .i64 m, .bool on] 60) (Bx : Blk w bx #[.pointer (some ⟨x, 0, none⟩)] 45) (Bg : Blk w bg #[.int .i64 0] 3) (Bt : Blk w bt #[.bool false] 4)
    (D : HD n F kind h m on s got took F') (hb : ∀ i, i < n → (F i).nest ≤ 1000 ∧ (F i).mail < 256) (d1 : bg ≠ g) (d2 : bg ≠ x) :
    Calls Try.prog 35 #[.pointer (some ⟨bq, 0, none⟩), .pointer (some ⟨bx, 0, none⟩), .pointer (some ⟨bg, 0, none⟩), .pointer (some ⟨bt, 0, none⟩)] w fun e w' =>
      Tame s e ∧ Fr (fun k => k = g ∨ k = bg ∨ k = bt) w w' ∧ HartsB w' x g n F' ∧ Blk w' bg #[.int .i64 got] 3 ∧ Blk w' bt #[.bool took] 4 := by
  have q0 := Bq.cell 0
  have q1 := Bq.cell 1
  have q2 := Bq.cell 2
  have q3 := Bq.cell 3
  have x0 := Bx.cell 0
  have HH := Lib.hid H
  have HG := Lib.hid Bg
  have HT := Lib.hid Bt
  have ne1 : ∀ k, Fr (fun j => j = g) w k → Fr (fun k => k = g ∨ k = bg ∨ k = bt) w k := fun k f => f.mono (fun _ _ h => .inl h)
  have NE := Lib.hid ne1
  have ngx := H.ne
  have btg : bt ≠ g := fun e => H.a.elim fun c hc => by have := Bt.ne hc.1 (.inr (by decide)); exact this e
  have bgt : bg ≠ bt := Bg.ne Bt (.inr (by decide))
  have btx : bt ≠ x := Bt.ne H.h (.inr (by decide))
  clear Bq Bx Bg Bt ne1
  have done : Hid (∀ w', Fr (fun j => j = g) w w' → HartsB w' x g n F' → Fr (fun k => k = g ∨ k = bg ∨ k = bt) w w' ∧ HartsB w' x g n F' ∧ Blk w' bg #[.int .i64 0] 3 ∧ Blk w' bt #[.bool false] 4) := fun w' f H' =>
    ⟨NE.out _ f, H', HG.out.fr f d1, HT.out.fr f btg⟩
  cases D with
  | who hb' =>
    have HSet := Lib.hid (hart_set_who x g n F h w H hb' on)
    have HPush := Lib.hid (hart_push_who x g n F h w H hb')
    have HPop := Lib.hid (hart_pop_who x g n F h w H hb')
    have HPost := Lib.hid (hart_post_who x g n F h w H hb' m)
    have HTake := Lib.hid (hart_take_who x g n F h w H hb')
    have HDue := Lib.hid (hart_due_who x g n F h w H hb')
    clear H hb hb'
    have hk : kind = 1 ∨ kind = 2 ∨ kind = 3 ∨ kind = 4 ∨ kind = 5 ∨ ((kind == 1) = false ∧ (kind == 2) = false ∧ (kind == 3) = false ∧ (kind == 4) = false ∧ (kind == 5) = false) := by
      by_cases k1 : kind = 1; · exact .inl k1
      by_cases k2 : kind = 2; · exact .inr (.inl k2)
      by_cases k3 : kind = 3; · exact .inr (.inr (.inl k3))
      by_cases k4 : kind = 4; · exact .inr (.inr (.inr (.inl k4)))
      by_cases k5 : kind = 5; · exact .inr (.inr (.inr (.inr (.inl k5))))
      exact .inr (.inr (.inr (.inr (.inr (by simp [k1, k2, k3, k4, k5])))))
    rcases hk with rfl | rfl | rfl | rfl | rfl | ⟨k1, k2, k3, k4, k5⟩
    all_goals
      go_enter Try.func35, Try.ntmps35
      go_wp2_with (first
        | (go_at_call 30; (with_reducible refine HSet.out.mono ?_); rintro e w' ⟨rfl, rfl⟩)
        | (go_at_call 24; (with_reducible refine HPush.out.mono ?_); rintro e w' ⟨rfl, rfl⟩)
        | (go_at_call 25; (with_reducible refine HPop.out.mono ?_); rintro e w' ⟨rfl, rfl⟩)
        | (go_at_call 28; (with_reducible refine HPost.out.mono ?_); rintro e w' ⟨rfl, rfl⟩)
        | (go_at_call 29; (with_reducible refine HTake.out.mono ?_); rintro e w' ⟨rfl, rfl⟩)
        | (go_at_call 33; (with_reducible refine HDue.out.mono ?_); rintro e w' ⟨rfl, rfl⟩))
      exact ⟨rfl, ⟨[], rfl, rfl⟩, done.out _ (Fr.refl _ _) HH.out⟩
  | setBad i e hi hk hz =>
    subst e hk
    have HC := Lib.hid (hart_set_bad x g n F i w H hi on hz)
    clear H hb hz
    go_enter Try.func35, Try.ntmps35
    go_wp2_with (go_at_call 30; (with_reducible refine HC.out.mono ?_); rintro e w' ⟨rfl, rfl⟩)
    exact ⟨rfl, ⟨[], rfl, rfl⟩, done.out _ (Fr.refl _ _) HH.out⟩
  | set i e hi hk hz =>
    subst e hk
    have HC := Lib.hid (hart_set x g n F i w H hi on hz)
    clear H hb hz
    go_enter Try.func35, Try.ntmps35
    go_wp2_with (go_at_call 30; (with_reducible refine HC.out.mono ?_); rintro e w' ⟨rfl, f, H'⟩; have HF := Lib.hid f; have HH' := Lib.hid H'; clear f H')
    go_end0
    exact ⟨⟨_, rfl⟩, done.out _ HF.out HH'.out⟩
  | push0 i e hi hk hz =>
    subst e hk
    have HC := Lib.hid (hart_push0 x g n F i w H hi hz)
    clear H hb hz
    go_enter Try.func35, Try.ntmps35
    go_wp2_with (go_at_call 24; (with_reducible refine HC.out.mono ?_); rintro e w' ⟨rfl, f, H'⟩; have HF := Lib.hid f; have HH' := Lib.hid H'; clear f H')
    go_end0
    exact ⟨⟨_, rfl⟩, done.out _ HF.out HH'.out⟩
  | push1 i e hi hk hz =>
    subst e hk
    have HC := Lib.hid (hart_push1 x g n F i w H hi hz (hb i hi).1)
    clear H hb hz
    go_enter Try.func35, Try.ntmps35
    go_wp2_with (go_at_call 24; (with_reducible refine HC.out.mono ?_); rintro e w' ⟨rfl, f, H'⟩; have HF := Lib.hid f; have HH' := Lib.hid H'; clear f H')
    go_end0
    exact ⟨⟨_, rfl⟩, done.out _ HF.out HH'.out⟩
  | popBad i e hi hk hz =>
    subst e hk
    have HC := Lib.hid (hart_pop_bad x g n F i w H hi hz)
    clear H hb hz
    go_enter Try.func35, Try.ntmps35
    go_wp2_with (go_at_call 25; (with_reducible refine HC.out.mono ?_); rintro e w' ⟨rfl, rfl⟩)
    exact ⟨rfl, ⟨[], rfl, rfl⟩, done.out _ (Fr.refl _ _) HH.out⟩
  | pop1 i e hi hk hz =>
    subst e hk
    have HC := Lib.hid (hart_pop1 x g n F i w H hi hz)
    clear H hb hz
    go_enter Try.func35, Try.ntmps35
    go_wp2_with (go_at_call 25; (with_reducible refine HC.out.mono ?_); rintro e w' ⟨rfl, f, H'⟩; have HF := Lib.hid f; have HH' := Lib.hid H'; clear f H')
    go_end0
    exact ⟨⟨_, rfl⟩, done.out _ HF.out HH'.out⟩
  | pop2 i e hi hk hz =>
    subst e hk
    have HC := Lib.hid (hart_pop2 x g n F i w H hi hz (hb i hi).1)
    clear H hb hz
    go_enter Try.func35, Try.ntmps35
    go_wp2_with (go_at_call 25; (with_reducible refine HC.out.mono ?_); rintro e w' ⟨rfl, f, H'⟩; have HF := Lib.hid f; have HH' := Lib.hid H'; clear f H')
    go_end0
    exact ⟨⟨_, rfl⟩, done.out _ HF.out HH'.out⟩
  | postBad i e hi hk hz =>
    subst e hk
    have HC := Lib.hid (hart_post_bad x g n F i w H hi m hz)
    clear H hb hz
    go_enter Try.func35, Try.ntmps35
    go_wp2_with (go_at_call 28; (with_reducible refine HC.out.mono ?_); rintro e w' ⟨rfl, rfl⟩)
    exact ⟨rfl, ⟨[], rfl, rfl⟩, done.out _ (Fr.refl _ _) HH.out⟩
  | post i q e hi hk hm hz =>
    subst e hk hm
    have HC := Lib.hid (hart_post x g n F i w H hi q hz (hb i hi).2)
    clear H hb hz
    go_enter Try.func35, Try.ntmps35
    go_wp2_with (go_at_call 28; (with_reducible refine HC.out.mono ?_); rintro e w' ⟨rfl, f, H'⟩; have HF := Lib.hid f; have HH' := Lib.hid H'; clear f H')
    go_end0
    exact ⟨⟨_, rfl⟩, done.out _ HF.out HH'.out⟩
  | takeNo i e hi hk hz =>
    subst e hk
    have HC := Lib.hid (hart_take_none x g n F i w H hi hz)
    clear H hb hz
    have lg := HG.out.lt
    have fg := HG.out.frozen
    have cg := HG.out.cell 0
    have lt := HT.out.lt
    have ft := HT.out.frozen
    have ct := HT.out.cell 0
    go_enter Try.func35, Try.ntmps35
    go_wp2_with (go_at_call 29; (with_reducible refine HC.out.mono ?_); rintro e w' ⟨rfl, rfl⟩)
    go_end0
    refine ⟨⟨_, rfl⟩, ((Fr.refl _ _).setCell (fun _ => .inr (.inl rfl)) _).setCell (fun _ => .inr (.inr rfl)) _, (HH.out.fr (Fr.set1 _ _ _ _) (fun e => d2 e.symm) (fun e => d1 e.symm)).fr (Fr.set1 _ _ _ _) (fun e => btx e.symm) (fun e => btg e.symm), (HG.out.set 0 _).other (fun e => bgt e.symm) _, (HT.out.other bgt _).set 0 _⟩
  | take i e hi hk hz =>
    subst e hk
    have HC := Lib.hid (hart_take x g n F i w H hi hz (hb i hi).2)
    clear H hb hz
    have AFT : Hid (∀ w', Fr (fun j => j = g) w w' → bg < w'.heap.size ∧ (∀ q, w'.frozen? ⟨bg, q, none⟩ = false) ∧ w'.cell? ⟨bg, 0, none⟩ = some (.int .i64 0) ∧ bt < w'.heap.size ∧ (∀ q, w'.frozen? ⟨bt, q, none⟩ = false) ∧ w'.cell? ⟨bt, 0, none⟩ = some (.bool false)) := fun w' f => by
      have a := HG.out.fr f d1
      have b := HT.out.fr f btg
      exact ⟨a.lt, a.frozen, a.cell 0, b.lt, b.frozen, b.cell 0⟩
    go_enter Try.func35, Try.ntmps35
    go_wp2_with (go_at_call 29; (with_reducible refine HC.out.mono ?_); rintro e w' ⟨rfl, f, H'⟩; obtain ⟨k0, k1, k2, k3, k4, k5⟩ := AFT.out _ f; have HF := Lib.hid f; have HH' := Lib.hid H'; clear f H')
    go_end0
    refine ⟨⟨_, rfl⟩, ((NE.out _ HF.out).setCell (fun _ => .inr (.inl rfl)) _).setCell (fun _ => .inr (.inr rfl)) _, (HH'.out.fr (Fr.set1 _ _ _ _) (fun e => d2 e.symm) (fun e => d1 e.symm)).fr (Fr.set1 _ _ _ _) (fun e => btx e.symm) (fun e => btg e.symm), ((HG.out.fr HF.out d1).set 0 _).other (fun e => bgt e.symm) _, ((HT.out.fr HF.out btg).other bgt _).set 0 _⟩
  | due i e hi hk =>
    obtain ⟨k1, k2, k3, k4, k5⟩ := hk
    subst e
    have HC := Lib.hid (hart_due x g n F i w H hi)
    clear H hb
    go_enter Try.func35, Try.ntmps35
    go_wp2_with (go_at_call 33; (with_reducible refine HC.out.mono ?_); rintro e w' ⟨rfl, rfl⟩)
    go_end0
    exact ⟨⟨_, rfl⟩, done.out _ (Fr.refl _ _) HH.out⟩
end Go.Proofs.Ytkclbgoagcpckaa
