import Derived.Test.YtbjfgcabomgdbaaRef
namespace Go.Proofs.Ytbjfgcabomgdbaa
open Go.RowKit

theorem plays1 (bn vm : Nat) (k : Nat) (hk : k ≤ 4096) (p : Value) (w : World) (hn : Blk w bn #[.int .i64 k] 3) (hv : Blk w vm #[p] 46) :
    Calls Try.prog 48 #[.pointer (some ⟨bn, 0, none⟩), .pointer (some ⟨vm, 0, none⟩)] w fun e w' => Tame .ok e ∧ Fr (fun x => x = vm) w w' ∧
      Blk w' vm #[.pointer (some ⟨w.heap.size + 1, 0, none⟩)] 46 ∧ Mem w' (w.heap.size + 1) w.heap.size k (fun _ => 0) 0 := by
  have c0 := hn.cell 0
  have HV := Lib.hid hv
  clear hn hv
  go_enter Try.func48, Try.ntmps48
  go_wp2_with (go_at_call 41; refine (mem_new k (by omega) _).mono ?_; rintro e w' ⟨rfl, f, M⟩; have F := Lib.hid f; have M' := Lib.hid M; have v' := HV.out.fr f id; have V' := Lib.hid v'; have cv := v'.cell 0; have fv := v'.frozen; have lv := v'.lt; clear v' f M)
  go_end0
  refine ⟨⟨_, rfl⟩, (Fr.mono (T := fun x => x = vm) F.out (fun _ _ h => h.elim)).setCell (fun _ => rfl) _, V'.out.set 0 _, M'.out.other ?_ ?_ _⟩
  · have := HV.out.lt; dsimp only; omega
  · have := HV.out.lt; dsimp only; omega

theorem plays1_bad (bn vm : Nat) (n : Int) (hk : n < 0 ∨ 4096 < n) (w : World) (hn : Blk w bn #[.int .i64 n] 3) :
    Calls Try.prog 48 #[.pointer (some ⟨bn, 0, none⟩), .pointer (some ⟨vm, 0, none⟩)] w fun e w' => Tame (.stop 2 n) e ∧ Fr (fun _ => False) w w' := by
  have c0 := hn.cell 0
  have HN := Lib.hid (fun w => mem_new_bad n hk w)
  clear hn hk
  go_enter Try.func48, Try.ntmps48
  go_wp2_with (go_at_call 41; refine (HN.out _).mono ?_; rintro e w' ⟨rfl, rfl⟩)
  exact ⟨rfl, ⟨[], rfl, rfl⟩, Fr.refl _ _⟩

/-- what an access does -/
inductive Acc (n : Nat) (V : Nat → Int) : Int → Int → Int → (Nat → Int) → Int → Nat → Stp → Prop
  | load (a : Nat) (x : Int) (h : a < n) : Acc n V 1 a x V (V a) 1 .ok
  | store (a : Nat) (x : Int) (h : a < n) : Acc n V 2 a x (upd V a x) 0 1 .ok
  | add (a : Nat) (x : Int) (h : a < n) : Acc n V 3 a x (upd V a (wadd (V a) x)) (V a) 1 .ok
  | swap (a : Nat) (x : Int) (h : a < n) : Acc n V 4 a x (upd V a x) (V a) 1 .ok
  | load' (a x : Int) (h : a < 0 ∨ (n : Int) ≤ a) : Acc n V 1 a x V 0 0 (.stop 2 a)
  | store' (a x : Int) (h : a < 0 ∨ (n : Int) ≤ a) : Acc n V 2 a x V 0 0 (.stop 2 a)
  | add' (a x : Int) (h : a < 0 ∨ (n : Int) ≤ a) : Acc n V 3 a x V 0 0 (.stop 2 a)
  | swap' (a x : Int) (h : a < 0 ∨ (n : Int) ≤ a) : Acc n V 4 a x V 0 0 (.stop 2 a)
  | other (k a x : Int) (h1 : (k == 1) = false) (h2 : (k == 2) = false) (h3 : (k == 3) = false) (h4 : (k == 4) = false) : Acc n V k a x V 0 0 .ok

theorem Acc.total (n : Nat) (V : Nat → Int) (k a x : Int) : ∃ U got d s, Acc n V k a x U got d s := by
  by_cases ha : a < 0 ∨ (n : Int) ≤ a
  · by_cases h1 : k = 1
    · subst h1; exact ⟨_, _, _, _, .load' a x ha⟩
    by_cases h2 : k = 2
    · subst h2; exact ⟨_, _, _, _, .store' a x ha⟩
    by_cases h3 : k = 3
    · subst h3; exact ⟨_, _, _, _, .add' a x ha⟩
    by_cases h4 : k = 4
    · subst h4; exact ⟨_, _, _, _, .swap' a x ha⟩
    exact ⟨_, _, _, _, .other k a x (by simpa using h1) (by simpa using h2) (by simpa using h3) (by simpa using h4)⟩
  · obtain ⟨b, rfl⟩ : ∃ b : Nat, a = b := ⟨a.toNat, by omega⟩
    have hb : b < n := by omega
    by_cases h1 : k = 1
    · subst h1; exact ⟨_, _, _, _, .load b x hb⟩
    by_cases h2 : k = 2
    · subst h2; exact ⟨_, _, _, _, .store b x hb⟩
    by_cases h3 : k = 3
    · subst h3; exact ⟨_, _, _, _, .add b x hb⟩
    by_cases h4 : k = 4
    · subst h4; exact ⟨_, _, _, _, .swap b x hb⟩
    exact ⟨_, _, _, _, .other k b x (by simpa using h1) (by simpa using h2) (by simpa using h3) (by simpa using h4)⟩

set_option maxHeartbeats 1000000 in
set_option maxRecDepth 100000 in
theorem plays2 (bq vm bg m g n : Nat) (V : Nat → Int) (c : Int) (K A X : Int) (U : Nat → Int) (got : Int) (d : Nat) (s : Stp) (w : World) (h : Acc n V K A X U got d s) (hc : 0 ≤ c ∧ c ≤ 1000000)
    (hq : Blk w bq #[.int .i64 K, .int .i64 A, .int .i64 X] 53) (hv : Blk w vm #[.pointer (some ⟨m, 0, none⟩)] 46) (hg : Blk w bg #[.int .i64 0] 3) (M : Mem w m g n V c) (hd : bg ≠ g) :
    Calls Try.prog 49 #[.pointer (some ⟨bq, 0, none⟩), .pointer (some ⟨vm, 0, none⟩), .pointer (some ⟨bg, 0, none⟩)] w fun e w' => Tame s e ∧ Fr (fun x => x = bg ∨ x = m ∨ x = g) w w' ∧
      Blk w' bg #[.int .i64 got] 3 ∧ Mem w' m g n U (c + d) := by
  have q0 := hq.cell 0
  have q1 := hq.cell 1
  have q2 := hq.cell 2
  have v0 := hv.cell 0
  have hgm : bg ≠ m := hg.ne M.h (.inr (by decide))
  have g0 := hg.cell 0
  have gf := hg.frozen
  have gl := hg.lt
  have HG := Lib.hid hg
  have HM := Lib.hid M
  clear hq hv hg M
  cases h with
  | load a x h =>
    have HC := Lib.hid (mem_load m g n V c a w HM.out h hc)
    clear hc
    go_enter Try.func49, Try.ntmps49
    go_wp2_with (go_at_call 45; refine HC.out.mono ?_; rintro e w' ⟨rfl, f, M⟩; have F := Lib.hid f; have M' := Lib.hid M; have v' := HG.out.fr f (by omega); have V' := Lib.hid v'; have cv := v'.cell 0; have fv := v'.frozen; have lv := v'.lt; clear v' f M)
    go_end0
    exact ⟨⟨_, rfl⟩, (Fr.mono (T := fun x => x = bg ∨ x = m ∨ x = g) F.out (fun x _ h => by omega)).setCell (fun _ => .inl rfl) _, V'.out.set 0 _, M'.out.other (by dsimp only; omega) (by dsimp only; omega) _⟩
  | store a x h =>
    have HC := Lib.hid (mem_store m g n V c a w HM.out h hc X)
    clear hc
    go_enter Try.func49, Try.ntmps49
    go_wp2_with (go_at_call 42; refine HC.out.mono ?_; rintro e w' ⟨rfl, f, M⟩; have F := Lib.hid f; have M' := Lib.hid M; have v' := HG.out.fr f (by omega); have V' := Lib.hid v'; have cv := v'.cell 0; have fv := v'.frozen; have lv := v'.lt; clear v' f M)
    go_end0
    exact ⟨⟨_, rfl⟩, Fr.mono (T := fun x => x = bg ∨ x = m ∨ x = g) F.out (fun x _ h => by omega), V'.out, M'.out⟩
  | add a x h =>
    have HC := Lib.hid (mem_add m g n V c a w HM.out h hc X)
    clear hc
    go_enter Try.func49, Try.ntmps49
    go_wp2_with (go_at_call 43; refine HC.out.mono ?_; rintro e w' ⟨rfl, f, M⟩; have F := Lib.hid f; have M' := Lib.hid M; have v' := HG.out.fr f (by omega); have V' := Lib.hid v'; have cv := v'.cell 0; have fv := v'.frozen; have lv := v'.lt; clear v' f M)
    go_end0
    exact ⟨⟨_, rfl⟩, (Fr.mono (T := fun x => x = bg ∨ x = m ∨ x = g) F.out (fun x _ h => by omega)).setCell (fun _ => .inl rfl) _, V'.out.set 0 _, M'.out.other (by dsimp only; omega) (by dsimp only; omega) _⟩
  | swap a x h =>
    have HC := Lib.hid (mem_swap m g n V c a w HM.out h hc X)
    clear hc
    go_enter Try.func49, Try.ntmps49
    go_wp2_with (go_at_call 44; refine HC.out.mono ?_; rintro e w' ⟨rfl, f, M⟩; have F := Lib.hid f; have M' := Lib.hid M; have v' := HG.out.fr f (by omega); have V' := Lib.hid v'; have cv := v'.cell 0; have fv := v'.frozen; have lv := v'.lt; clear v' f M)
    go_end0
    exact ⟨⟨_, rfl⟩, (Fr.mono (T := fun x => x = bg ∨ x = m ∨ x = g) F.out (fun x _ h => by omega)).setCell (fun _ => .inl rfl) _, V'.out.set 0 _, M'.out.other (by dsimp only; omega) (by dsimp only; omega) _⟩
  | load' a x h =>
    have HC := Lib.hid (mem_load_bad m g n V c A w HM.out h)
    clear hc h
    go_enter Try.func49, Try.ntmps49
    go_wp2_with (go_at_call 45; refine HC.out.mono ?_; rintro e w' ⟨rfl, rfl⟩)
    exact ⟨rfl, ⟨[], rfl, rfl⟩, Fr.refl _ _, HG.out, HM.out.congr (fun _ _ => rfl) (by omega)⟩
  | store' a x h =>
    have HC := Lib.hid (mem_store_bad m g n V c A w HM.out h X)
    clear hc h
    go_enter Try.func49, Try.ntmps49
    go_wp2_with (go_at_call 42; refine HC.out.mono ?_; rintro e w' ⟨rfl, rfl⟩)
    exact ⟨rfl, ⟨[], rfl, rfl⟩, Fr.refl _ _, HG.out, HM.out.congr (fun _ _ => rfl) (by omega)⟩
  | add' a x h =>
    have HC := Lib.hid (mem_add_bad m g n V c A w HM.out h X)
    clear hc h
    go_enter Try.func49, Try.ntmps49
    go_wp2_with (go_at_call 43; refine HC.out.mono ?_; rintro e w' ⟨rfl, rfl⟩)
    exact ⟨rfl, ⟨[], rfl, rfl⟩, Fr.refl _ _, HG.out, HM.out.congr (fun _ _ => rfl) (by omega)⟩
  | swap' a x h =>
    have HC := Lib.hid (mem_swap_bad m g n V c A w HM.out h X)
    clear hc h
    go_enter Try.func49, Try.ntmps49
    go_wp2_with (go_at_call 44; refine HC.out.mono ?_; rintro e w' ⟨rfl, rfl⟩)
    exact ⟨rfl, ⟨[], rfl, rfl⟩, Fr.refl _ _, HG.out, HM.out.congr (fun _ _ => rfl) (by omega)⟩
  | other k a x h1 h2 h3 h4 =>
    clear hc
    go_enter Try.func49, Try.ntmps49
    go_wp2
    go_end0
    exact ⟨⟨_, rfl⟩, Fr.refl _ _, HG.out, HM.out.congr (fun _ _ => rfl) (by omega)⟩
end Go.Proofs.Ytbjfgcabomgdbaa
