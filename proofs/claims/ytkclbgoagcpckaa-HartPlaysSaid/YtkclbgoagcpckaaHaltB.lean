import Derived.Test.YtkclbgoagcpckaaHaltA
import Derived.Lib.Hide
import Derived.RegionTactic
namespace Go.Proofs.Ytkclbgoagcpckaa
open Go.RowKit

theorem assert_stop (v : Value) (w : World) : (Instr.typeAssert (.iface 40 v) 20 40 true).run Try.prog w = .ok (.tuple #[v, .bool true]) w := by
  kernel_rfl

theorem zero_stop (w : World) : (zeroValue 40).run Try.prog w = .ok (.agg #[.int .i64 0, .int .i64 0]) w := by kernel_rfl

theorem assert_other (T : TypeId) (v : Value) (w : World) (h : T ≠ 40) : (Instr.typeAssert (.iface T v) 20 40 true).run Try.prog w = .ok (.tuple #[.agg #[.int .i64 0, .int .i64 0], .bool false]) w := by
  have hz := zero_stop w
  simp [Instr.typeAssert, go_sem, h, hz]

/-- What a run under a guard came to. -/
inductive Stp where
  | ok
  | stop (why at_ : Int)
  | other

def Stp.is : Stp → Bool
  | .ok => false
  | _ => true
def Stp.why : Stp → Int
  | .ok => 0
  | .stop a _ => a
  | .other => 1
def Stp.at : Stp → Int
  | .stop _ b => b
  | _ => 0

@[simp] theorem Stp.is_o : Stp.ok.is = false := rfl
@[simp] theorem Stp.is_s (a b : Int) : (Stp.stop a b).is = true := rfl
@[simp] theorem Stp.is_x : Stp.other.is = true := rfl
@[simp] theorem Stp.why_o : Stp.ok.why = 0 := rfl
@[simp] theorem Stp.why_s (a b : Int) : (Stp.stop a b).why = a := rfl
@[simp] theorem Stp.why_x : Stp.other.why = 1 := rfl
@[simp] theorem Stp.at_o : Stp.ok.at = 0 := rfl
@[simp] theorem Stp.at_s (a b : Int) : (Stp.stop a b).at = b := rfl
@[simp] theorem Stp.at_x : Stp.other.at = 0 := rfl

def Tame : Stp → Ending → Prop
  | .ok, e => ∃ v, e = .returned v
  | .stop a b, e => ∃ older, e = .panicked ({ v := .iface 40 (.agg #[.int .i64 a, .int .i64 b]), recovered := false } :: older) ∧ older.dropWhile (!·.goexit) = []
  | .other, e => ∃ T v older, e = .panicked ({ v := .iface T v, recovered := false } :: older) ∧ T ≠ 40 ∧ older.dropWhile (!·.goexit) = []

theorem Tame.uniq {s t : Stp} {e : Ending} (h : Tame s e) (k : Tame t e) : s = t := by
  cases s <;> cases t <;> simp only [Tame] at h k
  · rfl
  · obtain ⟨v, rfl⟩ := h; simp at k
  · obtain ⟨v, rfl⟩ := h; simp at k
  · obtain ⟨v, rfl⟩ := k; simp at h
  · obtain ⟨o, rfl, _⟩ := h; obtain ⟨o', he, _⟩ := k; simp at he; obtain ⟨⟨rfl, rfl⟩, _⟩ := he; rfl
  · obtain ⟨o, rfl, _⟩ := h; obtain ⟨T, v, o', he, hT, _⟩ := k; simp at he; exact absurd he.1.1.symm hT
  · obtain ⟨v, rfl⟩ := k; simp at h
  · obtain ⟨o, rfl, _⟩ := k; obtain ⟨T, v, o', he, hT, _⟩ := h; simp at he; exact absurd he.1.1.symm hT
  · rfl

theorem Stp.is_ok {s : Stp} (h : s.is = false) : s = .ok := by cases s <;> simp [Stp.is] at h ⊢

set_option maxRecDepth 100000 in
theorem catch_stop (pe ps pt : Nat) (why at_ : Int) (older : List PanicEntry) (w : World)
    (he : Blk w pe #[.bool false] 4) (hs : Blk w ps #[.bool false] 4) (ht : Blk w pt #[.int .i64 0, .int .i64 0] 40) (h1 : pt ≠ ps) :
    CallsD Try.prog 40 #[.pointer (some ⟨pe, 0, none⟩), .pointer (some ⟨ps, 0, none⟩), .pointer (some ⟨pt, 0, none⟩)] (.panicking ({ v := .iface 40 (.agg #[.int .i64 why, .int .i64 at_]), recovered := false } :: older)) w fun e u' w' =>
      e = .returned (.tuple #[]) ∧ u' = .panicking ({ v := .iface 40 (.agg #[.int .i64 why, .int .i64 at_]), recovered := true } :: older) ∧
      Blk w' ps #[.bool true] 4 ∧ Blk w' pt #[.int .i64 why, .int .i64 at_] 40 ∧ Fr (fun k => k = ps ∨ k = pt) w w' := by
  have hta := assert_stop
  have e0 := he.cell 0
  have s0 := hs.cell 0
  have sf := hs.frozen
  have t0 := ht.cell 0
  have t1 := ht.cell 1
  have tf := ht.frozen
  have lt1 := hs.lt
  have lt2 := ht.lt
  refine callsD_of_wpS Try.func40 rfl fun c₀ cs hu => ?_
  simp only [Try.ntmps40, List.size_toArray, List.length_cons, List.length_nil, Nat.reduceAdd, Nat.reduceSub, Array.replicate_succ,
     Array.replicate_zero, List.push_toArray, List.append_toArray, List.nil_append, List.cons_append]
  apply wpS_seq
  apply wpS_region
  simp [wpOpsS, go_sem, recoverD, hu, Exit.thenS]
  refine wpS_of_wp_k fun K hK => ?_
  go_wp2
  refine hK.out _ _ _ ?_
  refine ⟨rfl, _, rfl, .tuple #[], by simp [results], rfl, rfl, ?_, ?_, ?_⟩
  · exact ((((hs.set 0 _).other (by simpa using h1) _).other (by simpa using h1) _)).alloc _
  · exact (((ht.other (by simpa using Ne.symm h1) _).set 0 _).set 1 _).alloc _
  · exact ((((Fr.refl _ _).setCell (fun _ => Or.inl rfl) _).setCell (fun _ => Or.inr rfl) _).setCell (fun _ => Or.inr rfl) _).alloc _

set_option maxRecDepth 100000 in
theorem catch_other (pe ps pt : Nat) (T : TypeId) (v : Value) (older : List PanicEntry) (w : World) (hT : T ≠ 40)
    (he : Blk w pe #[.bool false] 4) (hs : Blk w ps #[.bool false] 4) (ht : Blk w pt #[.int .i64 0, .int .i64 0] 40) (h1 : pt ≠ ps) :
    CallsD Try.prog 40 #[.pointer (some ⟨pe, 0, none⟩), .pointer (some ⟨ps, 0, none⟩), .pointer (some ⟨pt, 0, none⟩)] (.panicking ({ v := .iface T v, recovered := false } :: older)) w fun e u' w' =>
      e = .returned (.tuple #[]) ∧ u' = .panicking ({ v := .iface T v, recovered := true } :: older) ∧
      Blk w' ps #[.bool true] 4 ∧ Blk w' pt #[.int .i64 1, .int .i64 0] 40 ∧ Fr (fun k => k = ps ∨ k = pt) w w' := by
  have hta := fun w => assert_other T v w hT
  have e0 := he.cell 0
  have s0 := hs.cell 0
  have sf := hs.frozen
  have t0 := ht.cell 0
  have t1 := ht.cell 1
  have tf := ht.frozen
  have lt1 := hs.lt
  have lt2 := ht.lt
  clear hT
  refine callsD_of_wpS Try.func40 rfl fun c₀ cs hu => ?_
  simp only [Try.ntmps40, List.size_toArray, List.length_cons, List.length_nil, Nat.reduceAdd, Nat.reduceSub, Array.replicate_succ,
     Array.replicate_zero, List.push_toArray, List.append_toArray, List.nil_append, List.cons_append]
  apply wpS_seq
  apply wpS_region
  simp [wpOpsS, go_sem, recoverD, hu, Exit.thenS]
  refine wpS_of_wp_k fun K hK => ?_
  go_wp2
  refine hK.out _ _ _ ?_
  refine ⟨rfl, _, rfl, .tuple #[], by simp [results], rfl, rfl, ?_, ?_, ?_⟩
  · exact ((((hs.set 0 _).other (by simpa using h1) _).other (by simpa using h1) _)).alloc _
  · exact (((ht.other (by simpa using Ne.symm h1) _).set 0 _).set 1 _).alloc _
  · exact ((((Fr.refl _ _).setCell (fun _ => Or.inl rfl) _).setCell (fun _ => Or.inr rfl) _).setCell (fun _ => Or.inr rfl) _).alloc _

theorem catch_idle (pe ps pt : Nat) (w : World) (he : Blk w pe #[.bool true] 4) :
    CallsD Try.prog 40 #[.pointer (some ⟨pe, 0, none⟩), .pointer (some ⟨ps, 0, none⟩), .pointer (some ⟨pt, 0, none⟩)] .returning w fun e u' w' =>
      e = .returned (.tuple #[]) ∧ u' = .returning ∧ w' = w := by
  have e0 := he.cell 0
  refine callsD_of_wpS Try.func40 rfl fun c₀ cs hu => ?_
  simp only [Try.ntmps40, List.size_toArray, List.length_cons, List.length_nil, Nat.reduceAdd, Nat.reduceSub, Array.replicate_succ,
     Array.replicate_zero, List.push_toArray, List.append_toArray, List.nil_append, List.cons_append]
  apply wpS_seq
  apply wpS_region
  simp [wpOpsS, go_sem, recoverD, hu, Exit.thenS]
  refine wpS_of_wp_k fun K hK => ?_
  go_wp2
  refine hK.out _ _ _ ?_
  exact ⟨rfl, _, by rw [← hu], .tuple #[], by simp [results], rfl, rfl, rfl⟩

theorem func_nil (fn : Fn) (first cap : Array Value) (w : World) : (binOp .eql 1 (.func fn first cap) .nilFunc).run Try.prog w = .ok (.bool false) w := by kernel_rfl
theorem nil_nil (w : World) : (binOp .eql 1 .nilFunc .nilFunc).run Try.prog w = .ok (.bool true) w := by kernel_rfl

noncomputable def gworld (w : World) : World := ((w.alloc (.cells #[.int .i64 0, .int .i64 0] 40)).alloc (.cells #[.bool false] 4)).alloc (.cells #[.bool false] 4)

theorem gworld_fr (w : World) (S : Nat → Prop) : Fr S w (gworld w) := ((((Fr.refl _ _).alloc _).alloc _).alloc _)
theorem gworld_size (w : World) : (gworld w).heap.size = w.heap.size + 3 := by simp [gworld]

set_option maxRecDepth 100000 in
/-- `halt.Guard(f)`: whatever f comes to. -/
theorem guard_of (g : FuncId) (cap : Array Value) (w : World) (R : Ending → World → Prop) (S : Nat → Prop) (hS : ∀ k, S k → k < w.heap.size)
    (hg : ∀ w, (callFunc g cap).run Try.prog w = .ok (.enter g cap) w)
    (hcall : Calls Try.prog g cap (gworld w) R) (hR : ∀ e w', R e w' → ∃ s, Tame s e ∧ Fr S (gworld w) w') :
    Calls Try.prog 20 #[.func (.func g) #[] cap] w fun e w' => ∃ s e1 w1, R e1 w1 ∧ Tame s e1 ∧
      e = .returned (.tuple #[.agg #[.int .i64 s.why, .int .i64 s.at], .bool s.is]) ∧ Fr (fun k => w.heap.size ≤ k ∧ k < w.heap.size + 3) w1 w' := by
  have hmf : ∀ (fn : Fn) (first cap : Array Value) (w : World), (Instr.makeFunc fn first cap).run Try.prog w = .ok (.func fn first cap) w := fun _ _ _ _ => rfl
  have hfn := func_nil
  go_enter_defers Try.func20, Try.ntmps20
  go_wp2_with fail
  refine hcall.mono ?_
  intro e w1 hr
  obtain ⟨s, hs, hf⟩ := hR e w1 hr
  have b0 : Blk w1 w.heap.size #[.int .i64 0, .int .i64 0] 40 := (((Blk.new w _ _).alloc _).alloc _).fr hf (fun h => by have := hS _ h; omega)
  have b1 : Blk w1 (w.heap.size + 1) #[.bool false] 4 := by
    have := ((Blk.new (w.alloc (.cells #[.int .i64 0, .int .i64 0] 40)) #[.bool false] 4).alloc (.cells #[.bool false] 4)).fr hf (fun h => by have := hS _ h; simp at this; omega)
    simpa using this
  have b2 : Blk w1 (w.heap.size + 1 + 1) #[.bool false] 4 := by
    have := (Blk.new ((w.alloc (.cells #[.int .i64 0, .int .i64 0] 40)).alloc (.cells #[.bool false] 4)) #[.bool false] 4).fr hf (fun h => by have := hS _ h; simp at this; omega)
    simpa using this
  cases s with
  | ok =>
    obtain ⟨v, rfl⟩ := hs
    clear hR hcall
    have HR := Lib.hid hr
    clear hr hf
    have e0 := b2.cell 0
    have ef := b2.frozen
    go_wp2_with fail
    have t0 := b0.cell 0
    have t1 := b0.cell 1
    have tf := b0.frozen
    have s0 := b1.cell 0
    have sf := b1.frozen
    go_region
    all_goals go_wp2
    have k0 : Blk (((((w1.setCell ⟨w.heap.size + 1 + 1, 0, none⟩ (.bool true)).setCell ⟨w.heap.size, 0, none⟩ (.int .i64 0)).setCell ⟨w.heap.size, 1, none⟩ (.int .i64 0)).setCell ⟨w.heap.size + 1, 0, none⟩ (.bool false)).drew) w.heap.size #[.int .i64 0, .int .i64 0] 40 :=
      ((((b0.other (by dsimp only; omega) _).set 0 _).set 1 _).other (by dsimp only; omega) _).drew
    have k1 : Blk (((((w1.setCell ⟨w.heap.size + 1 + 1, 0, none⟩ (.bool true)).setCell ⟨w.heap.size, 0, none⟩ (.int .i64 0)).setCell ⟨w.heap.size, 1, none⟩ (.int .i64 0)).setCell ⟨w.heap.size + 1, 0, none⟩ (.bool false)).drew) (w.heap.size + 1) #[.bool false] 4 :=
      ((((b1.other (by dsimp only; omega) _).other (by dsimp only; omega) _).other (by dsimp only; omega) _).set 0 _).drew
    have k2 : Blk (((((w1.setCell ⟨w.heap.size + 1 + 1, 0, none⟩ (.bool true)).setCell ⟨w.heap.size, 0, none⟩ (.int .i64 0)).setCell ⟨w.heap.size, 1, none⟩ (.int .i64 0)).setCell ⟨w.heap.size + 1, 0, none⟩ (.bool false)).drew) (w.heap.size + 1 + 1) #[.bool true] 4 :=
      ((((b2.set 0 _).other (by dsimp only; omega) _).other (by dsimp only; omega) _).other (by dsimp only; omega) _).drew
    have fr : Fr (fun k => w.heap.size ≤ k ∧ k < w.heap.size + 3) w1 (((((w1.setCell ⟨w.heap.size + 1 + 1, 0, none⟩ (.bool true)).setCell ⟨w.heap.size, 0, none⟩ (.int .i64 0)).setCell ⟨w.heap.size, 1, none⟩ (.int .i64 0)).setCell ⟨w.heap.size + 1, 0, none⟩ (.bool false)).drew) :=
      (((((Fr.refl _ _).setCell (fun _ => by simp; omega) _).setCell (fun _ => by simp) _).setCell (fun _ => by simp) _).setCell (fun _ => by simp) _).drew
    generalize (((((w1.setCell ⟨w.heap.size + 1 + 1, 0, none⟩ (.bool true)).setCell ⟨w.heap.size, 0, none⟩ (.int .i64 0)).setCell ⟨w.heap.size, 1, none⟩ (.int .i64 0)).setCell ⟨w.heap.size + 1, 0, none⟩ (.bool false)).drew) = w2 at *
    refine leaves_cons (f := 40) (args := #[.pointer (some ⟨w.heap.size + 1 + 1, 0, none⟩), .pointer (some ⟨w.heap.size + 1, 0, none⟩), .pointer (some ⟨w.heap.size, 0, none⟩)]) (by simp) (by simp [go_sem]) ?_
    refine (catch_idle _ _ _ _ k2).mono ?_
    rintro e u' w'' ⟨rfl, rfl, rfl⟩
    have q0 := k0.cell 0
    have q1 := k0.cell 1
    have q2 := k1.cell 0
    refine ⟨.tuple #[.agg #[.int .i64 0, .int .i64 0], .bool false], by simp [results, go_sem, q0, q1, q2], .ok, .returned v, w1, HR.out, ⟨v, rfl⟩, rfl, fr⟩
  | stop a b =>
    obtain ⟨older, rfl, hgo⟩ := hs
    go_wp2_with fail
    refine leaves_cons (f := 40) (args := #[.pointer (some ⟨w.heap.size + 1 + 1, 0, none⟩), .pointer (some ⟨w.heap.size + 1, 0, none⟩), .pointer (some ⟨w.heap.size, 0, none⟩)]) (by simp) (by simp [go_sem]) ?_
    refine (catch_stop _ _ _ a b older _ b2 b1 b0 (by omega)).mono ?_
    rintro e u' w2 ⟨rfl, rfl, k1, k0, hf2⟩
    have q0 := k0.cell 0
    have q1 := k0.cell 1
    have q2 := k1.cell 0
    simp only [settle, hgo]
    exact ⟨.tuple #[.agg #[.int .i64 a, .int .i64 b], .bool true], by simp [results, go_sem, q0, q1, q2], .stop a b, _, w1, hr, ⟨older, rfl, hgo⟩, rfl, hf2.mono (fun k _ h => by rcases h with h | h <;> omega)⟩
  | other =>
    obtain ⟨T, v, older, rfl, hT, hgo⟩ := hs
    go_wp2_with fail
    refine leaves_cons (f := 40) (args := #[.pointer (some ⟨w.heap.size + 1 + 1, 0, none⟩), .pointer (some ⟨w.heap.size + 1, 0, none⟩), .pointer (some ⟨w.heap.size, 0, none⟩)]) (by simp) (by simp [go_sem]) ?_
    refine (catch_other _ _ _ T v older _ hT b2 b1 b0 (by omega)).mono ?_
    rintro e u' w2 ⟨rfl, rfl, k1, k0, hf2⟩
    have q0 := k0.cell 0
    have q1 := k0.cell 1
    have q2 := k1.cell 0
    simp only [settle, hgo]
    exact ⟨.tuple #[.agg #[.int .i64 1, .int .i64 0], .bool true], by simp [results, go_sem, q0, q1, q2], .other, _, w1, hr, ⟨T, v, older, rfl, hT, hgo⟩, rfl, hf2.mono (fun k _ h => by rcases h with h | h <;> omega)⟩
end Go.Proofs.Ytkclbgoagcpckaa
