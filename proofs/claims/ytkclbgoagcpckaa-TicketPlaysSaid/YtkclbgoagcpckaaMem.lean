import Derived.Test.YtkclbgoagcpckaaHaltA
import Derived.Test.YtkclbgoagcpckaaArr
namespace Go.Proofs.Ytkclbgoagcpckaa
open Go.RowKit

/-- a memory of words: n words V, c accesses -/
structure Mem (w : World) (m g n : Nat) (V : Nat → Int) (c : Int) : Prop where
  h : Blk w m #[.slice (some ⟨g, 0, none⟩) n n, .int .i64 c] 64
  a : Arr w g n (fun i => .int .i64 (V i)) 3

theorem Mem.ne {w : World} {m g n : Nat} {V : Nat → Int} {c : Int} (h : Mem w m g n V c) : g ≠ m := h.a.ne h.h (by decide)
theorem Mem.fr {S : Nat → Prop} {w w' : World} {m g n : Nat} {V : Nat → Int} {c : Int} (h : Mem w m g n V c) (f : Fr S w w') (hm : ¬ S m) (hg : ¬ S g) : Mem w' m g n V c := ⟨h.h.fr f hm, h.a.fr f hg⟩
theorem Mem.alloc {w : World} {m g n : Nat} {V : Nat → Int} {c : Int} (h : Mem w m g n V c) (o : Obj) : Mem (w.alloc o) m g n V c := ⟨h.h.alloc o, h.a.alloc o⟩
theorem Mem.drew {w : World} {m g n : Nat} {V : Nat → Int} {c : Int} (h : Mem w m g n V c) : Mem w.drew m g n V c := ⟨h.h, h.a⟩

theorem mem_new (n : Nat) (hn : n ≤ 4096) (w : World) :
    Calls Try.prog 12 #[.int .i64 n] w fun e w' => e = .returned (.pointer (some ⟨w.heap.size + 1, 0, none⟩)) ∧ Fr (fun _ => False) w w' ∧ Mem w' (w.heap.size + 1) w.heap.size n (fun _ => 0) 0 := by
  have hmk := made_int n (by omega)
  have hn' : (n : Int) ≤ 4096 := by omega
  go_enter Try.func12, Try.ntmps12
  go_wp2_with (go_at_call 37; refine (must_true _ _ _).mono ?_; rintro e w' ⟨rfl, rfl⟩)
  go_ret
  exact ⟨by simp, ((Fr.refl _ _).alloc _).alloc _, ⟨Blk.at_new (by simp), (Arr.at_new _ _ rfl).alloc _⟩⟩

set_option maxRecDepth 100000 in
theorem mem_new_bad (n : Int) (hn : n < 0 ∨ 4096 < n) (w : World) :
    Calls Try.prog 12 #[.int .i64 n] w fun e w' => e = .panicked [{ v := .iface 40 (.agg #[.int .i64 2, .int .i64 n]), recovered := false }] ∧ w' = w := by
  go_enter Try.func12, Try.ntmps12
  rcases hn with hn | hn
  · go_wp2_with (go_at_call 37; refine (must_false _ _ _).mono ?_; rintro e w' ⟨rfl, rfl⟩)
    exact ⟨rfl, rfl, rfl⟩
  · have h0 : 0 ≤ n := by omega
    have h1 : ¬ n ≤ 4096 := by omega
    go_wp2_with (go_at_call 37; refine (must_false _ _ _).mono ?_; rintro e w' ⟨rfl, rfl⟩)
    exact ⟨rfl, rfl, rfl⟩

theorem mem_at (m g n : Nat) (V : Nat → Int) (c : Int) (a : Nat) (w : World) (M : Mem w m g n V c) (ha : a < n) (hc : 0 ≤ c ∧ c ≤ 1000000) :
    Calls Try.prog 41 #[.pointer (some ⟨m, 0, none⟩), .int .i64 a] w fun e w' => e = .returned (.pointer (some ⟨g, a, none⟩)) ∧ Fr (fun k => k = m) w w' ∧ Mem w' m g n V (c + 1) := by
  have c0 := M.h.cell 0
  have c1 := M.h.cell 1
  have f1 := M.h.frozen
  have l1 := M.h.lt
  have hM := Lib.hid M
  have hg := M.ne
  have ha' : (a : Int) < n := by omega
  obtain ⟨hc0, hc1⟩ := hc
  clear M
  go_enter Try.func41, Try.ntmps41
  go_wp2_with (go_at_call 37; refine (must_true _ _ _).mono ?_; rintro e w' ⟨rfl, rfl⟩)
  go_ret
  exact ⟨rfl, Fr.set1 _ _ _ _, ⟨hM.out.h.set 1 _, hM.out.a.other (fun h => hg h.symm) _⟩⟩

set_option maxRecDepth 100000 in
theorem mem_at_bad (m g n : Nat) (V : Nat → Int) (c : Int) (a : Int) (w : World) (M : Mem w m g n V c) (ha : a < 0 ∨ (n : Int) ≤ a) :
    Calls Try.prog 41 #[.pointer (some ⟨m, 0, none⟩), .int .i64 a] w fun e w' => e = .panicked [{ v := .iface 40 (.agg #[.int .i64 2, .int .i64 a]), recovered := false }] ∧ w' = w := by
  have c0 := M.h.cell 0
  clear M
  go_enter Try.func41, Try.ntmps41
  rcases ha with hn | hn
  · go_wp2_with (go_at_call 37; refine (must_false _ _ _).mono ?_; rintro e w' ⟨rfl, rfl⟩)
    exact ⟨rfl, rfl, rfl⟩
  · have h0 : 0 ≤ a := by omega
    have h1 : ¬ a < n := by omega
    go_wp2_with (go_at_call 37; refine (must_false _ _ _).mono ?_; rintro e w' ⟨rfl, rfl⟩)
    exact ⟨rfl, rfl, rfl⟩

/-- the sum of two numbers, as int has it -/
noncomputable def wadd (x y : Int) : Int := wrap64 (x + y)

theorem Mem.set {w : World} {m g n : Nat} {V : Nat → Int} {c : Int} (h : Mem w m g n V c) (a : Nat) (x : Int) : Mem (w.setCell ⟨g, a, none⟩ (.int .i64 x)) m g n (upd V a x) c :=
  ⟨h.h.other h.ne _, upd_comp (fun x => Value.int .i64 x) V a x ▸ h.a.set a _⟩

section
variable (m g n : Nat) (V : Nat → Int) (c : Int) (a : Nat) (w : World) (M : Mem w m g n V c) (ha : a < n) (hc : 0 ≤ c ∧ c ≤ 1000000)
include M ha hc

theorem mem_load : Calls Try.prog 22 #[.pointer (some ⟨m, 0, none⟩), .int .i64 a] w fun e w' => e = .returned (.int .i64 (V a)) ∧ Fr (fun k => k = m) w w' ∧ Mem w' m g n V (c + 1) := by
  have hat := Lib.hid (mem_at m g n V c a w M ha hc)
  clear M hc
  go_enter Try.func22, Try.ntmps22
  go_wp2_with (go_at_call 41; refine hat.out.mono ?_; rintro e w' ⟨rfl, f, M⟩; have F := Lib.hid f; have M' := Lib.hid M; have cl := M.a.cell ha; clear f M)
  go_ret
  exact ⟨rfl, F.out, M'.out⟩

theorem mem_add (x : Int) : Calls Try.prog 38 #[.pointer (some ⟨m, 0, none⟩), .int .i64 a, .int .i64 x] w fun e w' => e = .returned (.int .i64 (V a)) ∧ Fr (fun k => k = m ∨ k = g) w w' ∧ Mem w' m g n (upd V a (wadd (V a) x)) (c + 1) := by
  have hat := Lib.hid (mem_at m g n V c a w M ha hc)
  clear M hc
  go_enter Try.func38, Try.ntmps38
  go_wp2_with (go_at_call 41; refine hat.out.mono ?_; rintro e w' ⟨rfl, f, M⟩; have F := Lib.hid f; have M' := Lib.hid M; have cl := M.a.cell ha; have cf := M.a.frozen; have lt := M.a.lt; clear f M)
  go_ret
  refine ⟨rfl, (F.out.mono (fun _ _ h => .inl h)).setCell (fun _ => .inr rfl) _, ?_⟩
  exact M'.out.set _ _

end

section
variable (m g n : Nat) (V : Nat → Int) (c : Int) (w : World) (M : Mem w m g n V c)
include M
theorem mem_count : Calls Try.prog 18 #[.pointer (some ⟨m, 0, none⟩)] w fun e w' => e = .returned (.int .i64 c) ∧ w' = w := by
  have c0 := M.h.cell 1
  clear M
  go_enter Try.func18, Try.ntmps18
  go_wp2
  go_ret
  exact ⟨rfl, rfl⟩
end

section
variable (m g n : Nat) (V : Nat → Int) (c : Int) (a : Int) (w : World) (M : Mem w m g n V c) (ha : a < 0 ∨ (n : Int) ≤ a)
include M ha
theorem mem_load_bad : Calls Try.prog 22 #[.pointer (some ⟨m, 0, none⟩), .int .i64 a] w fun e w' => e = .panicked [{ v := .iface 40 (.agg #[.int .i64 2, .int .i64 a]), recovered := false }] ∧ w' = w := by
  have hat := Lib.hid (mem_at_bad m g n V c a w M ha)
  clear M ha
  go_enter Try.func22, Try.ntmps22
  go_wp2_with (go_at_call 41; refine hat.out.mono ?_; rintro e w' ⟨rfl, rfl⟩)
  exact ⟨rfl, rfl, rfl⟩
end
end Go.Proofs.Ytkclbgoagcpckaa
