import Derived.WalkKit
import Derived.ProofKit
import Derived.OpenShut
import Derived.ShutString
import Derived.ChangeOld
import Derived.Below
import Derived.Deep.Slices
namespace Go.Proofs.Ytkclbgoagcpckaa
open Go.ChangeShapes Go.WideShapes Go.ChangeAt Go.RowKit Go.Deep

/-- The kinds of fields of one cell. -/
inductive FK where
  | int (k : IntKind)
  | bool
  | str

def FK.ok : FK → Value → Prop
  | .int k, v => ∃ n, v = .int k n ∧ (Lit.int k n).wf = true
  | .bool, v => ∃ b, v = .bool b
  | .str, v => ∃ s, v = .string s ∧ s.size ≤ maxLen

/-- A type whose values are rows of such cells. -/
structure Flat (P : Program) (e : TypeId) (ks : List FK) : Prop where
  cells : P.cellsOf e = ks.length
  read : ∀ (H : Type) (enc : TypeId × Value → H) (w : World) (base : Nat) (spare : Nat → Bool) (held : Bool) (n : Nat) (cs : List Value) (x : DataW H × List MemPlace),
    DataW.trod enc P w base spare held n e cs = some x → ∀ (j : Nat) k v, ks[j]? = some k → cs[j]? = some v → k.ok v

theorem flat_int {P : Program} {e : TypeId} {k : IntKind} (h : P.underlying e = some (.int k)) (hc : P.cellsOf e = 1) : Flat P e [.int k] := by
  refine ⟨hc, fun H enc w base spare held n cs x ht j k' v hk hv => ?_⟩
  obtain ⟨m, rfl, _, hw⟩ := DataW.trod_int h ht
  match j, hk, hv with
  | 0, hk, hv => simp at hk hv; subst hk; subst hv; exact ⟨m, rfl, hw⟩
  | j + 1, hk, _ => simp at hk

theorem flat_bool {P : Program} {e : TypeId} (h : P.underlying e = some .bool) (hc : P.cellsOf e = 1) : Flat P e [.bool] := by
  refine ⟨hc, fun H enc w base spare held n cs x ht j k' v hk hv => ?_⟩
  obtain ⟨m, rfl, _⟩ := DataW.trod_bool h ht
  match j, hk, hv with
  | 0, hk, hv => simp at hk hv; subst hk; subst hv; exact ⟨m, rfl⟩
  | j + 1, hk, _ => simp at hk

theorem flat_struct {P : Program} {e : TypeId} {fs : Array Field} {ks : List FK} (h : P.underlying e = some (.struct fs)) (hc : P.cellsOf e = ks.length)
    (hf : ∀ (j : Nat) k, ks[j]? = some k → ∃ f, fs[j]? = some f ∧ f.offset = j ∧ P.cellsOf f.type = 1 ∧ Flat P f.type [k]) : Flat P e ks := by
  refine ⟨hc, fun H enc w base spare held n cs x ht j k v hk hv => ?_⟩
  obtain ⟨xs, m, _, _, hl, hxl, hr⟩ := DataW.trod_struct h ht
  obtain ⟨f, h1, h2, h3, h4⟩ := hf j k hk
  have hr' := hr j f h1
  have hjs : j < fs.size := (Array.getElem?_eq_some_iff.1 h1).1
  have hxs : xs[j]? = some (xs[j]'(by omega)) := List.getElem?_eq_getElem (by omega)
  rw [hxs, h2, h3] at hr'
  refine h4.read _ _ _ _ _ _ _ _ _ hr' 0 k v rfl ?_
  rw [List.getElem?_take, if_pos (by omega), List.getElem?_drop]
  simpa using hv

/-- A slice that came in, of rows of such cells. -/
def IsSl (ks : List FK) (w : World) (a : Option Addr) (len cap : Nat) (V : Nat → Nat → Value) : Prop :=
  (len ≤ cap ∧ cap ≤ 9223372036854775807 ∧ (a = none → cap = 0)) ∧ (len = 0 ∨ ∃ b off, a = some ⟨b, off, none⟩ ∧ b < w.heap.size ∧ len ≤ 9223372036854775807 ∧
    ∀ (i j : Nat) k, i < len → ks[j]? = some k → w.cell? ⟨b, off + (i * ks.length + j), none⟩ = some (V i j) ∧ k.ok (V i j))

theorem open_sl {H : Type} {enc : TypeId × Value → H} {P : Program} {w : World} {base : Nat} {spare : Nat → Bool} {held : Bool} {t e : TypeId} {ks : List FK} {a : Option Addr} {len cap : Nat} {d : DataW H} {p : List MemPlace}
    (ht : P.underlying t = some (.slice e)) (hF : Flat P e ks) (h0 : 0 < ks.length) (h : DataW.Trod enc P w base spare held t (.slice a len cap) d p) : ∃ V, IsSl ks w a len cap V := by
  obtain ⟨fuel, hf⟩ := h
  rcases open_slice ht hf with ⟨hcs, _⟩ | ⟨x, l, c, m, n, D, Pl, hcs, hb, hl, hm, hmm, _, hx⟩
  · simp [Value.cells] at hcs
    obtain ⟨rfl, rfl, rfl⟩ := hcs
    exact ⟨fun _ _ => undef, ⟨Nat.le_refl _, Nat.zero_le _, fun _ => rfl⟩, .inl rfl⟩
  · simp [Value.cells] at hcs
    obtain ⟨rfl, rfl, rfl⟩ := hcs
    have hcap : len ≤ cap ∧ cap ≤ 9223372036854775807 ∧ ((some x : Option Addr) = none → cap = 0) := ⟨hl, by unfold maxLen at hm; omega, fun h => by simp at h⟩
    rcases Nat.eq_zero_or_pos len with h | hlen
    · exact ⟨fun _ _ => undef, hcap, .inl h⟩
    have hlm : len ≤ m := by rw [hmm]; split <;> omega
    have key : ∀ i, i < len → ∀ (j : Nat), j < ks.length → ∃ v, w.cell? (x.add (i * ks.length + j)) = some v ∧ ∀ k, ks[j]? = some k → k.ok v := by
      intro i hi j hj
      obtain ⟨cs', h1, h2⟩ := hx i (by omega)
      rw [hF.cells] at h1
      obtain ⟨_, hlen', hcell⟩ := World.cells?_some h1
      have h3 := hcell j hj
      rw [add_add] at h3
      have hcs : cs'[j]? = some (cs'[j]'(by omega)) := List.getElem?_eq_getElem (by omega)
      exact ⟨_, by rw [h3, hcs], fun k hk => hF.read _ _ _ _ _ _ _ _ _ h2 j k _ hk hcs⟩
    obtain ⟨b, off, spot⟩ := x
    obtain rfl : spot = none := by
      obtain ⟨v, hv, _⟩ := key 0 hlen 0 h0
      simp only [Nat.zero_mul, Nat.zero_add, Addr.add, if_true] at hv
      unfold World.cell? at hv
      split at hv
      · cases spot
        · rfl
        · simp at hv
      · simp at hv
    have hadd : ∀ n, (⟨b, off, none⟩ : Addr).add n = ⟨b, off + n, none⟩ := fun n => by unfold Addr.add; split <;> simp_all
    have hlt : b < w.heap.size := by
      obtain ⟨v, hv, _⟩ := key 0 hlen 0 h0
      exact World.block_lt_of_cell? w _ (by rw [hadd] at hv; exact hv)
    classical
    refine ⟨fun i j => if hi : i < len then if hj : j < ks.length then Classical.choose (key i hi j hj) else undef else undef, hcap, .inr ⟨b, off, rfl, hlt, by unfold maxLen at hm; omega, fun i j k hi hk => ?_⟩⟩
    have hj : j < ks.length := (List.getElem?_eq_some_iff.1 hk).1
    dsimp only
    rw [dif_pos hi, dif_pos hj]
    have hs := Classical.choose_spec (key i hi j hj)
    exact ⟨(congrArg w.cell? (hadd _)).symm.trans hs.1, hs.2 k hk⟩


/-- .. which is empty, or of these cells. -/
theorem IsSl.cases {ks : List FK} {w : World} {a : Option Addr} {len : Nat} {V : Nat → Nat → Value} {cap : Nat} (h : IsSl ks w a len cap V) :
    len = 0 ∨ ∃ b off, a = some ⟨b, off, none⟩ ∧ b < w.heap.size ∧ len ≤ 9223372036854775807 ∧
      ∀ (i j : Nat) k, i < len → ks[j]? = some k → w.cell? ⟨b, off + (i * ks.length + j), none⟩ = some (V i j) ∧ k.ok (V i j) := h.2

theorem IsSl.cap {ks : List FK} {w : World} {a : Option Addr} {len cap : Nat} {V : Nat → Nat → Value} (h : IsSl ks w a len cap V) : len ≤ cap ∧ cap ≤ 9223372036854775807 ∧ (a = none → cap = 0) := h.1

theorem ok_ints {k : IntKind} {len j : Nat} {V : Nat → Nat → Value} (h : ∀ i, i < len → (FK.int k).ok (V i j)) : ∃ f : Nat → Int, ∀ i, i < len → V i j = .int k (f i) ∧ (Lit.int k (f i)).wf = true := by
  obtain ⟨f, hf⟩ := choose_lt (p := fun i n => V i j = .int k n ∧ (Lit.int k n).wf = true) h
  exact ⟨f, hf⟩

theorem ok_bools {len j : Nat} {V : Nat → Nat → Value} (h : ∀ i, i < len → (FK.bool).ok (V i j)) : ∃ f : Nat → Bool, ∀ i, i < len → V i j = .bool (f i) := by
  obtain ⟨f, hf⟩ := choose_lt (p := fun i n => V i j = .bool n) h
  exact ⟨f, hf⟩

theorem wf_i64 {n : Int} (h : (Lit.int .i64 n).wf = true) : -9223372036854775808 ≤ n ∧ n ≤ 9223372036854775807 := by
  simp [Lit.wf, IntKind.min, IntKind.max, IntKind.bits, IntKind.signed] at h
  omega

end Go.Proofs.Ytkclbgoagcpckaa
