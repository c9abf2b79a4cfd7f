import Derived.Test.YtkclbgoagcpckaaRec
import Derived.Test.YtkclbgoagcpckaaHaltB
import Derived.Test.YtkclbgoagcpckaaTz
import Derived.Laws.BitsAllLaws
namespace Go.Proofs.Ytkclbgoagcpckaa
open Go.RowKit

theorem must_ok (why at_ : Int) (w : World) :
    Calls Try.prog 37 #[.bool true, .int .i64 why, .int .i64 at_] w fun e w' => e = .returned (.tuple #[]) ∧ w = w' := (must_true why at_ w).mono fun _ _ h => ⟨h.1, h.2.symm⟩
theorem must_no (why at_ : Int) (w : World) :
    Calls Try.prog 37 #[.bool false, .int .i64 why, .int .i64 at_] w fun e w' => e = .panicked [{ v := .iface 40 (.agg #[.int .i64 why, .int .i64 at_]), recovered := false }] ∧ w = w' := (must_false why at_ w).mono fun _ _ h => ⟨h.1, h.2.symm⟩

/-- what a hart keeps -/
structure HOne where
  on : Bool
  kept : Bool
  nest : Nat
  mail : Nat
def HOne.cell (o : HOne) : Nat → Value
  | 0 => .bool o.on
  | 1 => .bool o.kept
  | 2 => .int .i64 o.nest
  | _ => .int .u8 o.mail

/-- n harts -/
structure HartsB (w : World) (x g n : Nat) (F : Nat → HOne) : Prop where
  h : Blk w x #[.slice (some ⟨g, 0, none⟩) n n] 72
  a : Rec w g n 4 (fun i => (F i).cell) 74

section
variable {w : World} {x g n : Nat} {F : Nat → HOne} (h : HartsB w x g n F)
include h
theorem HartsB.ne : g ≠ x := h.a.ne h.h (by decide)
theorem HartsB.fr {S : Nat → Prop} {w' : World} (f : Fr S w w') (hx : ¬ S x) (hg : ¬ S g) : HartsB w' x g n F := ⟨h.h.fr f hx, h.a.fr f hg⟩
theorem HartsB.alloc (o : Obj) : HartsB (w.alloc o) x g n F := ⟨h.h.alloc o, h.a.alloc o⟩
theorem HartsB.drew : HartsB w.drew x g n F := ⟨h.h, h.a⟩
theorem HartsB.congr {G : Nat → HOne} (e : ∀ i, i < n → F i = G i) : HartsB w x g n G := ⟨h.h, h.a.congr fun i j hi _ => by rw [e i hi]⟩
/-- a field turns -/
theorem HartsB.set {i j : Nat} (hj : j < 4) (o : HOne) (v : Value) (hv : o.cell j = v) (ho : ∀ q, q < 4 → q ≠ j → o.cell q = (F i).cell q) : HartsB (w.setCell ⟨g, i * 4 + j, none⟩ v) x g n (upd F i o) := by
  refine ⟨h.h.other h.ne _, (h.a.set hj v).congr fun i' j' _ hj' => ?_⟩
  by_cases e : i' = i
  · subst e
    rw [upd_self]
    by_cases e2 : j' = j
    · subst e2; simp [hv]
    · simp [e2, ho j' hj' e2]
  · rw [upd_ne _ _ e]; simp [e]
theorem HartsB.c0 {i : Nat} (hi : i < n) : w.cell? ⟨g, i * 4, none⟩ = some (.bool (F i).on) := h.a.cell hi (j := 0) (by omega)
theorem HartsB.c1 {i : Nat} (hi : i < n) : w.cell? ⟨g, i * 4 + 1, none⟩ = some (.bool (F i).kept) := h.a.cell hi (j := 1) (by omega)
theorem HartsB.c2 {i : Nat} (hi : i < n) : w.cell? ⟨g, i * 4 + 2, none⟩ = some (.int .i64 (F i).nest) := h.a.cell hi (j := 2) (by omega)
theorem HartsB.c3 {i : Nat} (hi : i < n) : w.cell? ⟨g, i * 4 + 3, none⟩ = some (.int .u8 (F i).mail) := h.a.cell hi (j := 3) (by omega)
end

theorem info_one : (Try.prog.info? 74).map (fun i => (i.zero, i.size, i.bytes)) = some (some (.agg #[.bool false, .bool false, .int .i64 0, .int .u8 0]), 4, 24) := by kernel_rfl
theorem made_one (n : Nat) (h : n ≤ 100) (w : World) :
    (Instr.makeSlice 70 (.int .i64 (n : Int)) (.int .i64 (n : Int))).run Try.prog w = .ok (.slice (some ⟨w.heap.size, 0, none⟩) n n) (w.alloc (.cells (madeCells #[.bool false, .bool false, .int .i64 0, .int .u8 0] (n * 4)) 74)) :=
  madek _ _ _ _ 4 24 Try.underlying70 info_one n (by omega) (by omega) w

theorem upd_upd {α : Type} (f : Nat → α) (i : Nat) (a b : α) : upd (upd f i a) i b = upd f i b := by funext j; unfold upd; split <;> rfl
theorem four {P : Nat → Prop} {j : Nat} (h0 : 0 ≠ j → P 0) (h1 : 1 ≠ j → P 1) (h2 : 2 ≠ j → P 2) (h3 : 3 ≠ j → P 3) : ∀ q, q < 4 → q ≠ j → P q := by
  intro q hq hne
  match q, hq with
  | 0, _ => exact h0 hne
  | 1, _ => exact h1 hne
  | 2, _ => exact h2 hne
  | 3, _ => exact h3 hne

theorem or_pow (x m : Nat) (h : x < 256) (hm : m < 8) : bits .or .u8 (x : Int) (2 ^ m % 256) = ((putb x m : Nat) : Int) := by
  have hp : 2 ^ m < 256 := by
    have : ∀ m : Fin 8, 2 ^ m.val < 256 := by decide
    exact this ⟨m, hm⟩
  have e : ((2 : Int) ^ m % 256) = ((2 ^ m : Nat) : Int) := by
    have : ∀ m : Fin 8, ((2 : Int) ^ m.val % 256) = ((2 ^ m.val : Nat) : Int) := by decide +kernel
    exact this ⟨m, hm⟩
  rw [e, u8_or_nat x (2 ^ m) h hp]
  rfl
theorem andnot_pow (x m : Nat) (h : x < 256) (hm : m < 8) : bits .andNot .u8 (x : Int) (2 ^ m % 256) = ((takeb x m : Nat) : Int) := by
  have hp : 2 ^ m < 256 := by
    have : ∀ m : Fin 8, 2 ^ m.val < 256 := by decide
    exact this ⟨m, hm⟩
  have e : ((2 : Int) ^ m % 256) = ((2 ^ m : Nat) : Int) := by
    have : ∀ m : Fin 8, ((2 : Int) ^ m.val % 256) = ((2 ^ m.val : Nat) : Int) := by decide +kernel
    exact this ⟨m, hm⟩
  rw [e, u8_andNot_nat x (2 ^ m) h hp]
  rfl

/-- i harts have their interrupts on -/
def OnRel (w0 : World) (n : Nat) (t22 : Value) (w : World) : Prop :=
  ∃ i : Nat, i ≤ n ∧ t22 = .int .i64 i ∧ HartsB w (w0.heap.size + 1) w0.heap.size n (fun j => ⟨decide (j < i), false, 0, 0⟩) ∧ Fr (fun _ => False) w0 w

set_option maxRecDepth 100000 in
theorem hart_new (n : Nat) (hn : 1 ≤ n ∧ n ≤ 8) (w : World) :
    Calls Try.prog 23 #[.int .i64 n] w fun e w' => e = .returned (.pointer (some ⟨w.heap.size + 1, 0, none⟩)) ∧ Fr (fun _ => False) w w' ∧ HartsB w' (w.heap.size + 1) w.heap.size n (fun _ => ⟨true, false, 0, 0⟩) := by
  have hmk := made_one n (by omega)
  obtain ⟨hn1, hn2⟩ := hn
  have hn1' : (1 : Int) ≤ n := by omega
  have hn2' : (n : Int) ≤ 8 := by omega
  go_enter Try.func23, Try.ntmps23
  go_wp2_with (go_at_call 37; refine (must_ok _ _ _).mono ?_; rintro e w' ⟨rfl, rfl⟩)
  go_loopw [22] (fun t22 wr => OnRel w n t22 wr) (fun t22 _ => (n - intOf t22).toNat)
  case atStart =>
    refine ⟨0, by omega, rfl, ⟨Blk.at_new (by simp), ((Rec.at_new #[.bool false, .bool false, .int .i64 0, .int .u8 0] n 4 rfl rfl).alloc _).congr fun i j _ hj => ?_⟩, ((Fr.refl _ _).alloc _).alloc _⟩
    match j, hj with
    | 0, _ => rfl
    | 1, _ => rfl
    | 2, _ => rfl
    | 3, _ => rfl
  case round =>
    obtain ⟨i, hi, rfl, hH, hF⟩ := hrel
    have HH := Lib.hid hH
    have HF := Lib.hid hF
    have h0 := hH.h.cell 0
    by_cases hin : i < n
    · have hin' : (i : Int) < n := by omega
      have c0 := hH.c0 hin
      have fr := hH.a.frozen
      clear hH hF
      go_wp2_with fail
      refine ⟨⟨i + 1, by omega, by go_num, (HH.out.set (i := i) (j := 0) (by omega) ⟨true, false, 0, 0⟩ _ rfl (fun q hq hne => ?_)).congr (fun q _ => ?_), HF.out.setCell (by dsimp only; omega) _⟩, by simp [intOf]; omega⟩
      · match q, hq with
        | 0, _ => omega
        | 1, _ => rfl
        | 2, _ => rfl
        | 3, _ => rfl
      · unfold upd
        split
        · rename_i e; subst e; simp
        · simp; omega
    · have hin' : ¬ (i : Int) < n := by omega
      clear hH hF
      go_wp2_with fail
      go_ret
      exact ⟨rfl, HF.out, HH.out.congr fun q hq => by simp; omega⟩

section
variable (x g n : Nat) (F : Nat → HOne) (i : Nat) (w : World) (H : HartsB w x g n F) (hi : i < n)
include H hi

theorem hart_of : Calls Try.prog 42 #[.pointer (some ⟨x, 0, none⟩), .int .i64 i] w fun e w' => e = .returned (.pointer (some ⟨g, i * 4, none⟩)) ∧ w = w' := by
  have h0 := H.h.cell 0
  have hi' : (i : Int) < n := by omega
  clear H hi
  go_enter Try.func42, Try.ntmps42
  go_wp2_with (go_at_call 37; refine (must_ok _ _ _).mono ?_; rintro e w' ⟨rfl, rfl⟩)
  go_ret
  exact ⟨rfl, rfl⟩

end
end Go.Proofs.Ytkclbgoagcpckaa
