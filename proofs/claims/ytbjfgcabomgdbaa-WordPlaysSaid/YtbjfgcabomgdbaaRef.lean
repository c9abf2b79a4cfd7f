import Derived.Test.YtbjfgcabomgdbaaWordB
namespace Go.Proofs.Ytbjfgcabomgdbaa
open Go.RowKit

/-- the document's own memory -/
structure RefM (w : World) (r g n : Nat) (V : Nat → Int) (c y : Int) : Prop where
  h : Blk w r #[.slice (some ⟨g, 0, none⟩) n n, .int .i64 c, .int .i64 y] 57
  a : Arr w g n (fun i => .int .i64 (V i)) 3

section
variable {w : World} {r g n : Nat} {V : Nat → Int} {c y : Int} (h : RefM w r g n V c y)
include h
theorem RefM.ne : g ≠ r := h.a.ne h.h (by decide)
theorem RefM.fr {S : Nat → Prop} {w' : World} (f : Fr S w w') (hm : ¬ S r) (hg : ¬ S g) : RefM w' r g n V c y := ⟨h.h.fr f hm, h.a.fr f hg⟩
theorem RefM.alloc (o : Obj) : RefM (w.alloc o) r g n V c y := ⟨h.h.alloc o, h.a.alloc o⟩
theorem RefM.drew : RefM w.drew r g n V c y := ⟨h.h, h.a⟩
theorem RefM.other {p : Addr} (h1 : p.block ≠ r) (h2 : p.block ≠ g) (v : Value) : RefM (w.setCell p v) r g n V c y := ⟨h.h.other h1 v, h.a.other h2 v⟩
theorem RefM.set (a : Nat) (x : Int) : RefM (w.setCell ⟨g, a, none⟩ (.int .i64 x)) r g n (upd V a x) c y :=
  ⟨h.h.other h.ne _, upd_comp (fun x => Value.int .i64 x) V a x ▸ h.a.set a _⟩
theorem RefM.why (x : Int) : RefM (w.setCell ⟨r, 2, none⟩ (.int .i64 x)) r g n V c x :=
  ⟨h.h.set 2 _, h.a.other (fun e => h.ne e.symm) _⟩
theorem RefM.count (x : Int) : RefM (w.setCell ⟨r, 1, none⟩ (.int .i64 x)) r g n V x y :=
  ⟨h.h.set 1 _, h.a.other (fun e => h.ne e.symm) _⟩
theorem RefM.congr {U : Nat → Int} {d z : Int} (e : ∀ i, i < n → V i = U i) (hc : c = d) (hy : y = z) : RefM w r g n U d z := ⟨hc ▸ hy ▸ h.h, h.a.congr fun i hi => by rw [e i hi]⟩
end

section
variable (r g n : Nat) (V : Nat → Int) (c y : Int) (w : World) (M : RefM w r g n V c y)
include M

theorem ref_at (a : Nat) (ha : a < n) (hc : 0 ≤ c ∧ c ≤ 1000000) :
    Calls Try.prog 60 #[.pointer (some ⟨r, 0, none⟩), .int .i64 a] w fun e w' => e = .returned (.bool true) ∧ Fr (fun k => k = r) w w' ∧ RefM w' r g n V (c + 1) 0 := by
  have c0 := M.h.cell 0
  have c1 := M.h.cell 1
  have c2 := M.h.cell 2
  have f1 := M.h.frozen
  have l1 := M.h.lt
  have hM := Lib.hid M
  have ha' : (a : Int) < n := by omega
  have ha0 : (0 : Int) ≤ a := by omega
  obtain ⟨hc0, hc1⟩ := hc
  clear M
  go_enter Try.func60, Try.ntmps60
  go_wp2
  go_ret
  exact ⟨rfl, ((Fr.refl (fun k => k = r) _).setCell (fun _ => rfl) _).setCell (fun _ => rfl) _, (hM.out.why 0).count _⟩

set_option maxRecDepth 100000 in
theorem ref_at_bad (a : Int) (ha : a < 0 ∨ (n : Int) ≤ a) :
    Calls Try.prog 60 #[.pointer (some ⟨r, 0, none⟩), .int .i64 a] w fun e w' => e = .returned (.bool false) ∧ Fr (fun k => k = r) w w' ∧ RefM w' r g n V c 2 := by
  have c0 := M.h.cell 0
  have c1 := M.h.cell 1
  have c2 := M.h.cell 2
  have f1 := M.h.frozen
  have l1 := M.h.lt
  have hM := Lib.hid M
  clear M
  go_enter Try.func60, Try.ntmps60
  rcases ha with ha | ha
  · go_wp2
    go_ret
    exact ⟨rfl, ((Fr.refl (fun k => k = r) _).setCell (fun _ => rfl) _).setCell (fun _ => rfl) _, (hM.out.why 0).why _⟩
  · have h0 : ¬ a < 0 := by omega
    go_wp2
    go_ret
    exact ⟨rfl, ((Fr.refl (fun k => k = r) _).setCell (fun _ => rfl) _).setCell (fun _ => rfl) _, (hM.out.why 0).why _⟩

section
variable (a : Nat) (ha : a < n) (hc : 0 ≤ c ∧ c ≤ 1000000)
include ha hc

theorem ref_load : Calls Try.prog 50 #[.pointer (some ⟨r, 0, none⟩), .int .i64 a] w fun e w' => e = .returned (.int .i64 (V a)) ∧ Fr (fun k => k = r ∨ k = g) w w' ∧ RefM w' r g n V (c + 1) 0 := by
  have hat := Lib.hid (ref_at r g n V c y w M a ha hc)
  have ha' : (a : Int) < n := by omega
  clear M hc
  go_enter Try.func50, Try.ntmps50
  go_wp2_with (go_at_call 60; refine hat.out.mono ?_; rintro e w' ⟨rfl, f, M⟩; have F := Lib.hid f; have M' := Lib.hid M; have cl := M.a.cell ha; have c0 := M.h.cell 0; clear f M)
  go_ret
  exact ⟨rfl, F.out.mono (fun _ _ h => .inl h), M'.out⟩

theorem ref_store (x : Int) : Calls Try.prog 51 #[.pointer (some ⟨r, 0, none⟩), .int .i64 a, .int .i64 x] w fun e w' => e = .returned (.tuple #[]) ∧ Fr (fun k => k = r ∨ k = g) w w' ∧ RefM w' r g n (upd V a x) (c + 1) 0 := by
  have hat := Lib.hid (ref_at r g n V c y w M a ha hc)
  have ha' : (a : Int) < n := by omega
  clear M hc
  go_enter Try.func51, Try.ntmps51
  go_wp2_with (go_at_call 60; refine hat.out.mono ?_; rintro e w' ⟨rfl, f, M⟩; have F := Lib.hid f; have M' := Lib.hid M; have cl := M.a.cell ha; have c0 := M.h.cell 0; have cf := M.a.frozen; have lt := M.a.lt; clear f M)
  go_end0
  exact ⟨rfl, (F.out.mono (fun _ _ h => .inl h)).setCell (fun _ => .inr rfl) _, M'.out.set _ _⟩

theorem ref_add (x : Int) : Calls Try.prog 52 #[.pointer (some ⟨r, 0, none⟩), .int .i64 a, .int .i64 x] w fun e w' => e = .returned (.int .i64 (V a)) ∧ Fr (fun k => k = r ∨ k = g) w w' ∧ RefM w' r g n (upd V a (wadd (V a) x)) (c + 1) 0 := by
  have hat := Lib.hid (ref_at r g n V c y w M a ha hc)
  have ha' : (a : Int) < n := by omega
  clear M hc
  go_enter Try.func52, Try.ntmps52
  go_wp2_with (go_at_call 60; refine hat.out.mono ?_; rintro e w' ⟨rfl, f, M⟩; have F := Lib.hid f; have M' := Lib.hid M; have cl := M.a.cell ha; have c0 := M.h.cell 0; have cf := M.a.frozen; have lt := M.a.lt; clear f M)
  go_ret
  exact ⟨rfl, (F.out.mono (fun _ _ h => .inl h)).setCell (fun _ => .inr rfl) _, M'.out.set _ _⟩

theorem ref_swap (x : Int) : Calls Try.prog 53 #[.pointer (some ⟨r, 0, none⟩), .int .i64 a, .int .i64 x] w fun e w' => e = .returned (.int .i64 (V a)) ∧ Fr (fun k => k = r ∨ k = g) w w' ∧ RefM w' r g n (upd V a x) (c + 1) 0 := by
  have hat := Lib.hid (ref_at r g n V c y w M a ha hc)
  have ha' : (a : Int) < n := by omega
  clear M hc
  go_enter Try.func53, Try.ntmps53
  go_wp2_with (go_at_call 60; refine hat.out.mono ?_; rintro e w' ⟨rfl, f, M⟩; have F := Lib.hid f; have M' := Lib.hid M; have cl := M.a.cell ha; have c0 := M.h.cell 0; have cf := M.a.frozen; have lt := M.a.lt; clear f M)
  go_ret
  exact ⟨rfl, (F.out.mono (fun _ _ h => .inl h)).setCell (fun _ => .inr rfl) _, M'.out.set _ _⟩
end

section
variable (a : Int) (ha : a < 0 ∨ (n : Int) ≤ a)
include ha
theorem ref_load_bad : Calls Try.prog 50 #[.pointer (some ⟨r, 0, none⟩), .int .i64 a] w fun e w' => e = .returned (.int .i64 0) ∧ Fr (fun k => k = r) w w' ∧ RefM w' r g n V c 2 := by
  have hat := Lib.hid (ref_at_bad r g n V c y w M a ha)
  clear M ha
  go_enter Try.func50, Try.ntmps50
  go_wp2_with (go_at_call 60; refine hat.out.mono ?_; rintro e w' ⟨rfl, f, M⟩; have F := Lib.hid f; have M' := Lib.hid M; clear f M)
  go_ret
  exact ⟨rfl, F.out, M'.out⟩
theorem ref_store_bad (x : Int) : Calls Try.prog 51 #[.pointer (some ⟨r, 0, none⟩), .int .i64 a, .int .i64 x] w fun e w' => e = .returned (.tuple #[]) ∧ Fr (fun k => k = r) w w' ∧ RefM w' r g n V c 2 := by
  have hat := Lib.hid (ref_at_bad r g n V c y w M a ha)
  clear M ha
  go_enter Try.func51, Try.ntmps51
  go_wp2_with (go_at_call 60; refine hat.out.mono ?_; rintro e w' ⟨rfl, f, M⟩; have F := Lib.hid f; have M' := Lib.hid M; clear f M)
  go_end0
  exact ⟨rfl, F.out, M'.out⟩
theorem ref_add_bad (x : Int) : Calls Try.prog 52 #[.pointer (some ⟨r, 0, none⟩), .int .i64 a, .int .i64 x] w fun e w' => e = .returned (.int .i64 0) ∧ Fr (fun k => k = r) w w' ∧ RefM w' r g n V c 2 := by
  have hat := Lib.hid (ref_at_bad r g n V c y w M a ha)
  clear M ha
  go_enter Try.func52, Try.ntmps52
  go_wp2_with (go_at_call 60; refine hat.out.mono ?_; rintro e w' ⟨rfl, f, M⟩; have F := Lib.hid f; have M' := Lib.hid M; clear f M)
  go_ret
  exact ⟨rfl, F.out, M'.out⟩
theorem ref_swap_bad (x : Int) : Calls Try.prog 53 #[.pointer (some ⟨r, 0, none⟩), .int .i64 a, .int .i64 x] w fun e w' => e = .returned (.int .i64 0) ∧ Fr (fun k => k = r) w w' ∧ RefM w' r g n V c 2 := by
  have hat := Lib.hid (ref_at_bad r g n V c y w M a ha)
  clear M ha
  go_enter Try.func53, Try.ntmps53
  go_wp2_with (go_at_call 60; refine hat.out.mono ?_; rintro e w' ⟨rfl, f, M⟩; have F := Lib.hid f; have M' := Lib.hid M; clear f M)
  go_ret
  exact ⟨rfl, F.out, M'.out⟩
end
end
end Go.Proofs.Ytbjfgcabomgdbaa
