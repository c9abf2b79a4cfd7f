import Derived.Test.YtkclbgoagcpckaaChecked
import Derived.Test.YtkclbgoagcpckaaLib
namespace Go.Proofs.Ytkclbgoagcpckaa
open Go.RowKit

/-- the least bit -/
def tzn (x : Nat) : Nat := if x % 2 = 1 then 0 else if x / 2 % 2 = 1 then 1 else if x / 4 % 2 = 1 then 2 else if x / 8 % 2 = 1 then 3 else if x / 16 % 2 = 1 then 4 else if x / 32 % 2 = 1 then 5 else if x / 64 % 2 = 1 then 6 else if x / 128 % 2 = 1 then 7 else 8

theorem ret_i64 {a b : Int} (h : a = b) : Ending.returned (.int .i64 a) = .returned (.int .i64 b) := by rw [h]
theorem wrap64_small (a : Nat) (h : a < 256) : wrap64 (a : Int) = a := by unfold wrap64; omega

theorem tab_at (s : ByteArray) (hall : ∀ i : Fin 256, (s.data[i.val]!).toNat = tzn i) (x : Nat) (hx : x < 256) (p : x < s.size) : s[x].toNat = tzn x := by
  have h := hall ⟨x, hx⟩
  have p' : x < s.data.size := p
  rw [getElem!_pos s.data x p'] at h
  exact h

set_option maxRecDepth 100000 in
theorem tz8 (x : Nat) (hx : x < 256) (w : World) :
    Calls Try.prog 43 #[.int .u8 x] w fun e w' => e = .returned (.int .i64 (tzn x)) ∧ w = w' := by
  have h1 : (0 : Int) ≤ x := by omega
  have h2 : (x : Int) < 256 := by omega
  go_enter Try.func43, Try.ntmps43
  go_wp2
  go_ret
  refine ⟨ret_i64 ?_, rfl⟩
  rw [wrap64_small _ (UInt8.toNat_lt _)]
  exact congrArg Int.ofNat (tab_at _ (by decide +kernel) x hx _)

theorem tzn_lt (x : Nat) (h0 : x ≠ 0) (h : x < 256) : tzn x < 8 := by
  have : ∀ y : Fin 256, y.val ≠ 0 → tzn y < 8 := by decide +kernel
  exact this ⟨x, h⟩ h0

/-- bits of a byte -/
def hasb (x m : Nat) : Bool := x / 2 ^ m % 2 == 1
theorem tzn_is (x : Nat) (h0 : x ≠ 0) (h : x < 256) : hasb x (tzn x) = true := by
  have : ∀ y : Fin 256, y.val ≠ 0 → hasb y (tzn y) = true := by decide +kernel
  exact this ⟨x, h⟩ h0
theorem tzn_least (x : Nat) (h : x < 256) (j : Nat) (hj : j < tzn x) : hasb x j = false := by
  have : ∀ y : Fin 256, ∀ j : Fin 9, j.val < tzn y → hasb y j = false := by decide +kernel
  exact this ⟨x, h⟩ ⟨j, by have : ∀ y : Fin 256, tzn y < 9 := by decide +kernel
                           have := this ⟨x, h⟩; simp only at this; omega⟩ hj
/-- mail put in, taken out -/
def putb (x m : Nat) : Nat := x ||| 2 ^ m
def takeb (x m : Nat) : Nat := x &&& (255 - 2 ^ m)
theorem putb_lt (x m : Nat) (h : x < 256) (hm : m < 8) : putb x m < 256 := by
  have : ∀ y : Fin 256, ∀ m : Fin 8, putb y m < 256 := by decide +kernel
  exact this ⟨x, h⟩ ⟨m, hm⟩
theorem takeb_lt (x m : Nat) (h : x < 256) (hm : m < 8) : takeb x m < 256 := by
  have : ∀ y : Fin 256, ∀ m : Fin 8, takeb y m < 256 := by decide +kernel
  exact this ⟨x, h⟩ ⟨m, hm⟩
theorem putb_has (x m j : Nat) (h : x < 256) (hm : m < 8) (hj : j < 8) : hasb (putb x m) j = (decide (j = m) || hasb x j) := by
  have : ∀ y : Fin 256, ∀ m j : Fin 8, hasb (putb y m) j = (decide (j.val = m.val) || hasb y j) := by decide +kernel
  exact this ⟨x, h⟩ ⟨m, hm⟩ ⟨j, hj⟩
theorem takeb_has (x m j : Nat) (h : x < 256) (hm : m < 8) (hj : j < 8) : hasb (takeb x m) j = (!decide (j = m) && hasb x j) := by
  have : ∀ y : Fin 256, ∀ m j : Fin 8, hasb (takeb y m) j = (!decide (j.val = m.val) && hasb y j) := by decide +kernel
  exact this ⟨x, h⟩ ⟨m, hm⟩ ⟨j, hj⟩
theorem hasb_zero (x : Nat) (h : x < 256) (hz : ∀ j, j < 8 → hasb x j = false) : x = 0 := by
  rcases Nat.eq_zero_or_pos x with h0 | h0
  · exact h0
  · have := tzn_is x (by omega) h
    rw [hz _ (tzn_lt x (by omega) h)] at this
    simp at this
end Go.Proofs.Ytkclbgoagcpckaa
