import Derived.Test.YtmgijchcfjmphaaArg
import Derived.Test.YtmgijchcfjmphaaShelf
import Derived.Lib.IndexBytes
namespace Go.Proofs.Ytmgijchcfjmphaa
open Go.RowKit

def argBytes (σ : St) (p a n : Int) : (ByteArray × Bool) × St :=
  if fits (σ.get (memK p)).s a n = true then (((σ.get (memK p)).s.extract a.toNat (a + n).toNat, true), σ.got (memK p)) else ((⟨#[]⟩, false), σ.got (memK p))

set_option maxRecDepth 100000 in
set_option maxHeartbeats 1000000 in
theorem arg_bytes {V : Vw} {σ : St} (p a n : Int) {w0 w : World} {O : List Own1} (h : Keeps V w0 σ O w) :
    Calls Try.prog 11 #[V.p, .int .i64 p, .int .i64 a, .int .i64 n] w (Ret V w0 O w (.tuple #[.string (argBytes σ p a n).1.1, .bool (argBytes σ p a n).1.2]) (argBytes σ p a n).2) := by
  have hz := h.vs.size (memK p)
  have HH := Lib.hid h
  have HK := Lib.hid h.vs.keeps
  have HW := Lib.hid (fun w => arg_within (σ.get (memK p)).s a n w hz)
  have hz' : ((σ.get (memK p)).s.size : Int) ≤ 1000000000 := by omega
  clear h
  cases hf : fits (σ.get (memK p)).s a n with
  | true =>
    have HE := Lib.hid (show argBytes σ p a n = (((σ.get (memK p)).s.extract a.toNat (a + n).toNat, true), σ.got (memK p)) by unfold argBytes; rw [if_pos hf])
    obtain ⟨h1, h2, h3, h4⟩ := of_decide_eq_true hf
    rw [HE.out]
    rw [hf] at HW
    clear hf
    go_enter Try.func11, Try.ntmps11
    go_wp2_with (first | (go_at_call 25; (with_reducible refine (keyed (arg_key _ _) (by repeat' (first | (with_reducible exact HK.out) | (with_reducible apply Keeps.allocB) | (with_reducible apply Keeps.alloc) | (with_reducible apply Keeps.drew) | (with_reducible apply Keeps.drewN) | (with_reducible apply Keeps.setOwn) | (with_reducible apply Keeps.putOwn) | (with_reducible show (_ : Nat) ≤ _; omega)))).mono ?_); rintro e w1 ⟨rfl, k1⟩; clear HK; have HK := Lib.hid k1.k; have F1 := Lib.hid k1.f; obtain ⟨s0, own⟩ := k1.facts; simp only [go_sem] at own; clear k1) | (go_at_call 24; (with_reducible refine (get_ok _ (by repeat' (first | (with_reducible exact HK.out) | (with_reducible apply Keeps.allocB) | (with_reducible apply Keeps.alloc) | (with_reducible apply Keeps.drew) | (with_reducible apply Keeps.drewN) | (with_reducible apply Keeps.setOwn) | (with_reducible apply Keeps.putOwn) | (with_reducible show (_ : Nat) ≤ _; omega)))).mono ?_); rintro e w1 ⟨rfl, k1⟩; clear HK; have HK := Lib.hid k1.k; have F1 := Lib.hid k1.f; obtain ⟨s0, own⟩ := k1.facts; simp only [go_sem] at own; clear k1) | (go_at_call 26; refine (HW.out _).mono ?_; rintro e w' ⟨rfl, rfl⟩))
    go_ret2
    exact ⟨rfl, HH.out.kept (by repeat' (first | (with_reducible exact HK.out) | (with_reducible apply Keeps.allocB) | (with_reducible apply Keeps.alloc) | (with_reducible apply Keeps.drew) | (with_reducible apply Keeps.drewN) | (with_reducible apply Keeps.setOwn) | (with_reducible apply Keeps.putOwn) | (with_reducible show (_ : Nat) ≤ _; omega)))⟩
  | false =>
    have HE := Lib.hid (show argBytes σ p a n = ((⟨#[]⟩, false), σ.got (memK p)) by unfold argBytes; rw [if_neg (by rw [hf]; decide)])
    rw [HE.out]
    rw [hf] at HW
    clear hf
    go_enter Try.func11, Try.ntmps11
    go_wp2_with (first | (go_at_call 25; (with_reducible refine (keyed (arg_key _ _) (by repeat' (first | (with_reducible exact HK.out) | (with_reducible apply Keeps.allocB) | (with_reducible apply Keeps.alloc) | (with_reducible apply Keeps.drew) | (with_reducible apply Keeps.drewN) | (with_reducible apply Keeps.setOwn) | (with_reducible apply Keeps.putOwn) | (with_reducible show (_ : Nat) ≤ _; omega)))).mono ?_); rintro e w1 ⟨rfl, k1⟩; clear HK; have HK := Lib.hid k1.k; have F1 := Lib.hid k1.f; obtain ⟨s0, own⟩ := k1.facts; simp only [go_sem] at own; clear k1) | (go_at_call 24; (with_reducible refine (get_ok _ (by repeat' (first | (with_reducible exact HK.out) | (with_reducible apply Keeps.allocB) | (with_reducible apply Keeps.alloc) | (with_reducible apply Keeps.drew) | (with_reducible apply Keeps.drewN) | (with_reducible apply Keeps.setOwn) | (with_reducible apply Keeps.putOwn) | (with_reducible show (_ : Nat) ≤ _; omega)))).mono ?_); rintro e w1 ⟨rfl, k1⟩; clear HK; have HK := Lib.hid k1.k; have F1 := Lib.hid k1.f; obtain ⟨s0, own⟩ := k1.facts; simp only [go_sem] at own; clear k1) | (go_at_call 26; refine (HW.out _).mono ?_; rintro e w' ⟨rfl, rfl⟩))
    go_ret2
    exact ⟨rfl, HH.out.kept (by repeat' (first | (with_reducible exact HK.out) | (with_reducible apply Keeps.allocB) | (with_reducible apply Keeps.alloc) | (with_reducible apply Keeps.drew) | (with_reducible apply Keeps.drewN) | (with_reducible apply Keeps.setOwn) | (with_reducible apply Keeps.putOwn) | (with_reducible show (_ : Nat) ≤ _; omega)))⟩

/-- where the text at an address ends; below 0: nowhere -/
def nought (s : ByteArray) (a : Nat) : Int := Lib.indexByte (s.extract a s.size).data.toList 0
def argText (σ : St) (p a most : Int) : (ByteArray × Bool) × St :=
  if a < 0 ∨ (σ.get (memK p)).s.size ≤ a ∨ nought (σ.get (memK p)).s a.toNat < 0 ∨ most < nought (σ.get (memK p)).s a.toNat then ((⟨#[]⟩, false), σ.got (memK p)) else
  (((σ.get (memK p)).s.extract a.toNat (a + nought (σ.get (memK p)).s a.toNat).toNat, true), σ.got (memK p))

theorem nought_of (s : ByteArray) (a : Nat) : nought s a = -1 ∨ ∃ o : Nat, nought s a = o ∧ a + o < s.size := Lib.indexByte_piece s a s.size 0

set_option maxRecDepth 100000 in
set_option maxHeartbeats 1000000 in
theorem arg_text {V : Vw} {σ : St} (p a most : Int) {w0 w : World} {O : List Own1} (h : Keeps V w0 σ O w) :
    Calls Try.prog 10 #[V.p, .int .i64 p, .int .i64 a, .int .i64 most] w (Ret V w0 O w (.tuple #[.string (argText σ p a most).1.1, .bool (argText σ p a most).1.2]) (argText σ p a most).2) := by
  have hz := h.vs.size (memK p)
  have HH := Lib.hid h
  have HK := Lib.hid h.vs.keeps
  have hz' : ((σ.get (memK p)).s.size : Int) ≤ 1000000000 := by omega
  clear h
  by_cases h1 : a < 0
  · have HE := Lib.hid (show argText σ p a most = ((⟨#[]⟩, false), σ.got (memK p)) by unfold argText; rw [if_pos (.inl h1)])
    rw [HE.out]
    go_enter Try.func10, Try.ntmps10
    go_wp2_with (first | (go_at_call 25; (with_reducible refine (keyed (arg_key _ _) (by repeat' (first | (with_reducible exact HK.out) | (with_reducible apply Keeps.allocB) | (with_reducible apply Keeps.alloc) | (with_reducible apply Keeps.drew) | (with_reducible apply Keeps.drewN) | (with_reducible apply Keeps.setOwn) | (with_reducible apply Keeps.putOwn) | (with_reducible show (_ : Nat) ≤ _; omega)))).mono ?_); rintro e w1 ⟨rfl, k1⟩; clear HK; have HK := Lib.hid k1.k; have F1 := Lib.hid k1.f; obtain ⟨s0, own⟩ := k1.facts; simp only [go_sem] at own; clear k1) | (go_at_call 24; (with_reducible refine (get_ok _ (by repeat' (first | (with_reducible exact HK.out) | (with_reducible apply Keeps.allocB) | (with_reducible apply Keeps.alloc) | (with_reducible apply Keeps.drew) | (with_reducible apply Keeps.drewN) | (with_reducible apply Keeps.setOwn) | (with_reducible apply Keeps.putOwn) | (with_reducible show (_ : Nat) ≤ _; omega)))).mono ?_); rintro e w1 ⟨rfl, k1⟩; clear HK; have HK := Lib.hid k1.k; have F1 := Lib.hid k1.f; obtain ⟨s0, own⟩ := k1.facts; simp only [go_sem] at own; clear k1))
    go_ret2
    exact ⟨rfl, HH.out.kept (by repeat' (first | (with_reducible exact HK.out) | (with_reducible apply Keeps.allocB) | (with_reducible apply Keeps.alloc) | (with_reducible apply Keeps.drew) | (with_reducible apply Keeps.drewN) | (with_reducible apply Keeps.setOwn) | (with_reducible apply Keeps.putOwn) | (with_reducible show (_ : Nat) ≤ _; omega)))⟩
  by_cases h2 : ((σ.get (memK p)).s.size : Int) ≤ a
  · have HE := Lib.hid (show argText σ p a most = ((⟨#[]⟩, false), σ.got (memK p)) by unfold argText; rw [if_pos (.inr (.inl h2))])
    rw [HE.out]
    have h3 : decide (a < 0) = false := decide_eq_false h1
    go_enter Try.func10, Try.ntmps10
    go_wp2_with (first | (go_at_call 25; (with_reducible refine (keyed (arg_key _ _) (by repeat' (first | (with_reducible exact HK.out) | (with_reducible apply Keeps.allocB) | (with_reducible apply Keeps.alloc) | (with_reducible apply Keeps.drew) | (with_reducible apply Keeps.drewN) | (with_reducible apply Keeps.setOwn) | (with_reducible apply Keeps.putOwn) | (with_reducible show (_ : Nat) ≤ _; omega)))).mono ?_); rintro e w1 ⟨rfl, k1⟩; clear HK; have HK := Lib.hid k1.k; have F1 := Lib.hid k1.f; obtain ⟨s0, own⟩ := k1.facts; simp only [go_sem] at own; clear k1) | (go_at_call 24; (with_reducible refine (get_ok _ (by repeat' (first | (with_reducible exact HK.out) | (with_reducible apply Keeps.allocB) | (with_reducible apply Keeps.alloc) | (with_reducible apply Keeps.drew) | (with_reducible apply Keeps.drewN) | (with_reducible apply Keeps.setOwn) | (with_reducible apply Keeps.putOwn) | (with_reducible show (_ : Nat) ≤ _; omega)))).mono ?_); rintro e w1 ⟨rfl, k1⟩; clear HK; have HK := Lib.hid k1.k; have F1 := Lib.hid k1.f; obtain ⟨s0, own⟩ := k1.facts; simp only [go_sem] at own; clear k1))
    go_ret2
    exact ⟨rfl, HH.out.kept (by repeat' (first | (with_reducible exact HK.out) | (with_reducible apply Keeps.allocB) | (with_reducible apply Keeps.alloc) | (with_reducible apply Keeps.drew) | (with_reducible apply Keeps.drewN) | (with_reducible apply Keeps.setOwn) | (with_reducible apply Keeps.putOwn) | (with_reducible show (_ : Nat) ≤ _; omega)))⟩
  obtain ⟨b, rfl⟩ : ∃ b : Nat, a = b := ⟨a.toNat, by omega⟩
  have hb : b < (σ.get (memK p)).s.size := by omega
  have hb' : (b : Int) < (σ.get (memK p)).s.size := by omega
  have HI : Hid (∀ w, Calls Try.prog 28 #[.string ((σ.get (memK p)).s.extract b (σ.get (memK p)).s.size), .int .u8 0] w fun e w' => e = .returned (.int .i64 (nought (σ.get (memK p)).s b)) ∧ w = w') := fun w =>
    (Try.strings_IndexByte _ _ _).mono fun _ _ k => ⟨k.1, k.2.symm⟩
  have hn := nought_of (σ.get (memK p)).s b
  obtain ⟨m, hm⟩ : ∃ m, m = nought (σ.get (memK p)).s b := ⟨_, rfl⟩
  rw [← hm] at hn HI
  have HM := Lib.hid hm
  clear hm
  have hge : (0 : Int) ≤ b := by omega
  have hnl : ¬ ((σ.get (memK p)).s.size : Int) ≤ b := by omega
  rcases hn with hn | ⟨o, hn, ho⟩
  · have HE := Lib.hid (show argText σ p b most = ((⟨#[]⟩, false), σ.got (memK p)) by unfold argText; rw [Int.toNat_natCast, ← HM.out, if_pos (.inr (.inr (.inl (by omega))))])
    rw [HE.out]
    rw [hn] at HI
    clear hn h1 h2
    go_enter Try.func10, Try.ntmps10
    go_wp2_with (first | (go_at_call 25; (with_reducible refine (keyed (arg_key _ _) (by repeat' (first | (with_reducible exact HK.out) | (with_reducible apply Keeps.allocB) | (with_reducible apply Keeps.alloc) | (with_reducible apply Keeps.drew) | (with_reducible apply Keeps.drewN) | (with_reducible apply Keeps.setOwn) | (with_reducible apply Keeps.putOwn) | (with_reducible show (_ : Nat) ≤ _; omega)))).mono ?_); rintro e w1 ⟨rfl, k1⟩; clear HK; have HK := Lib.hid k1.k; have F1 := Lib.hid k1.f; obtain ⟨s0, own⟩ := k1.facts; simp only [go_sem] at own; clear k1) | (go_at_call 24; (with_reducible refine (get_ok _ (by repeat' (first | (with_reducible exact HK.out) | (with_reducible apply Keeps.allocB) | (with_reducible apply Keeps.alloc) | (with_reducible apply Keeps.drew) | (with_reducible apply Keeps.drewN) | (with_reducible apply Keeps.setOwn) | (with_reducible apply Keeps.putOwn) | (with_reducible show (_ : Nat) ≤ _; omega)))).mono ?_); rintro e w1 ⟨rfl, k1⟩; clear HK; have HK := Lib.hid k1.k; have F1 := Lib.hid k1.f; obtain ⟨s0, own⟩ := k1.facts; simp only [go_sem] at own; clear k1) | (go_at_call 28; refine (HI.out _).mono ?_; rintro e w' ⟨rfl, rfl⟩))
    go_ret2
    exact ⟨rfl, HH.out.kept (by repeat' (first | (with_reducible exact HK.out) | (with_reducible apply Keeps.allocB) | (with_reducible apply Keeps.alloc) | (with_reducible apply Keeps.drew) | (with_reducible apply Keeps.drewN) | (with_reducible apply Keeps.setOwn) | (with_reducible apply Keeps.putOwn) | (with_reducible show (_ : Nat) ≤ _; omega)))⟩
  · rw [hn] at HI HM
    have hob : (b : Int) + o < (σ.get (memK p)).s.size := by omega
    have ho0 : (0 : Int) ≤ o := by omega
    have HO := Lib.hid hn
    clear hn h1 h2
    by_cases h4 : most < (o : Int)
    · have HE := Lib.hid (show argText σ p b most = ((⟨#[]⟩, false), σ.got (memK p)) by unfold argText; rw [Int.toNat_natCast, ← HM.out, if_pos (.inr (.inr (.inr h4)))])
      rw [HE.out]
      have h5 : decide ((o : Int) < 0) = false := decide_eq_false (by omega)
      go_enter Try.func10, Try.ntmps10
      go_wp2_with (first | (go_at_call 25; (with_reducible refine (keyed (arg_key _ _) (by repeat' (first | (with_reducible exact HK.out) | (with_reducible apply Keeps.allocB) | (with_reducible apply Keeps.alloc) | (with_reducible apply Keeps.drew) | (with_reducible apply Keeps.drewN) | (with_reducible apply Keeps.setOwn) | (with_reducible apply Keeps.putOwn) | (with_reducible show (_ : Nat) ≤ _; omega)))).mono ?_); rintro e w1 ⟨rfl, k1⟩; clear HK; have HK := Lib.hid k1.k; have F1 := Lib.hid k1.f; obtain ⟨s0, own⟩ := k1.facts; simp only [go_sem] at own; clear k1) | (go_at_call 24; (with_reducible refine (get_ok _ (by repeat' (first | (with_reducible exact HK.out) | (with_reducible apply Keeps.allocB) | (with_reducible apply Keeps.alloc) | (with_reducible apply Keeps.drew) | (with_reducible apply Keeps.drewN) | (with_reducible apply Keeps.setOwn) | (with_reducible apply Keeps.putOwn) | (with_reducible show (_ : Nat) ≤ _; omega)))).mono ?_); rintro e w1 ⟨rfl, k1⟩; clear HK; have HK := Lib.hid k1.k; have F1 := Lib.hid k1.f; obtain ⟨s0, own⟩ := k1.facts; simp only [go_sem] at own; clear k1) | (go_at_call 28; refine (HI.out _).mono ?_; rintro e w' ⟨rfl, rfl⟩))
      go_ret2
      exact ⟨rfl, HH.out.kept (by repeat' (first | (with_reducible exact HK.out) | (with_reducible apply Keeps.allocB) | (with_reducible apply Keeps.alloc) | (with_reducible apply Keeps.drew) | (with_reducible apply Keeps.drewN) | (with_reducible apply Keeps.setOwn) | (with_reducible apply Keeps.putOwn) | (with_reducible show (_ : Nat) ≤ _; omega)))⟩
    · have HE := Lib.hid (show argText σ p b most = (((σ.get (memK p)).s.extract b (b + o), true), σ.got (memK p)) by unfold argText; rw [Int.toNat_natCast, ← HM.out, if_neg (by omega), show ((b : Int) + o).toNat = b + o by omega])
      rw [HE.out]
      have h5 : decide ((o : Int) < 0) = false := decide_eq_false (by omega)
      go_enter Try.func10, Try.ntmps10
      go_wp2_with (first | (go_at_call 25; (with_reducible refine (keyed (arg_key _ _) (by repeat' (first | (with_reducible exact HK.out) | (with_reducible apply Keeps.allocB) | (with_reducible apply Keeps.alloc) | (with_reducible apply Keeps.drew) | (with_reducible apply Keeps.drewN) | (with_reducible apply Keeps.setOwn) | (with_reducible apply Keeps.putOwn) | (with_reducible show (_ : Nat) ≤ _; omega)))).mono ?_); rintro e w1 ⟨rfl, k1⟩; clear HK; have HK := Lib.hid k1.k; have F1 := Lib.hid k1.f; obtain ⟨s0, own⟩ := k1.facts; simp only [go_sem] at own; clear k1) | (go_at_call 24; (with_reducible refine (get_ok _ (by repeat' (first | (with_reducible exact HK.out) | (with_reducible apply Keeps.allocB) | (with_reducible apply Keeps.alloc) | (with_reducible apply Keeps.drew) | (with_reducible apply Keeps.drewN) | (with_reducible apply Keeps.setOwn) | (with_reducible apply Keeps.putOwn) | (with_reducible show (_ : Nat) ≤ _; omega)))).mono ?_); rintro e w1 ⟨rfl, k1⟩; clear HK; have HK := Lib.hid k1.k; have F1 := Lib.hid k1.f; obtain ⟨s0, own⟩ := k1.facts; simp only [go_sem] at own; clear k1) | (go_at_call 28; refine (HI.out _).mono ?_; rintro e w' ⟨rfl, rfl⟩))
      go_ret2
      exact ⟨rfl, HH.out.kept (by repeat' (first | (with_reducible exact HK.out) | (with_reducible apply Keeps.allocB) | (with_reducible apply Keeps.alloc) | (with_reducible apply Keeps.drew) | (with_reducible apply Keeps.drewN) | (with_reducible apply Keeps.setOwn) | (with_reducible apply Keeps.putOwn) | (with_reducible show (_ : Nat) ≤ _; omega)))⟩

def argPut (σ : St) (p a : Int) (d : ByteArray) : Bool × St :=
  if fits (σ.get (memK p)).s a d.size = true then (true, (σ.got (memK p)).put (memK p) ((σ.get (memK p)).str ((σ.get (memK p)).s.extract 0 a.toNat ++ d ++ (σ.get (memK p)).s.extract (a + d.size).toNat (σ.get (memK p)).s.size))) else (false, σ.got (memK p))

set_option maxRecDepth 100000 in
set_option maxHeartbeats 1000000 in
theorem arg_put {V : Vw} {σ : St} (p a : Int) (d : ByteArray) (hd : d.size ≤ 1000000000) {w0 w : World} {O : List Own1} (h : Keeps V w0 σ O w) :
    Calls Try.prog 9 #[V.p, .int .i64 p, .int .i64 a, .string d] w (Ret V w0 O w (.bool (argPut σ p a d).1) (argPut σ p a d).2) := by
  have hz := h.vs.size (memK p)
  have HH := Lib.hid h
  have HK := Lib.hid h.vs.keeps
  have HW := Lib.hid (fun w => arg_within (σ.get (memK p)).s a d.size w hz)
  have hz' : ((σ.get (memK p)).s.size : Int) ≤ 1000000000 := by omega
  have hd' : (d.size : Int) ≤ 1000000000 := by omega
  have HX0 := Lib.hid (h.vs.ok (memK p))
  clear h
  cases hf : fits (σ.get (memK p)).s a d.size with
  | true =>
    have HE := Lib.hid (show argPut σ p a d = (true, (σ.got (memK p)).put (memK p) ((σ.get (memK p)).str ((σ.get (memK p)).s.extract 0 a.toNat ++ d ++ (σ.get (memK p)).s.extract (a + d.size).toNat (σ.get (memK p)).s.size))) by unfold argPut; rw [if_pos hf])
    obtain ⟨h1, h2, h3, h4⟩ := of_decide_eq_true hf
    have HX := Lib.hid (HX0.out.str (s := (σ.get (memK p)).s.extract 0 a.toNat ++ d ++ (σ.get (memK p)).s.extract (a + d.size).toNat (σ.get (memK p)).s.size) (by simp [ByteArray.size_append, ByteArray.size_extract]; omega))
    rw [HE.out]
    rw [hf] at HW
    clear hf
    have h5 : (a : Int) + d.size ≤ (σ.get (memK p)).s.size := by omega
    have h6 : (0 : Int) ≤ a + d.size := by omega
    go_enter Try.func9, Try.ntmps9
    go_wp2_with (first | (go_at_call 25; (with_reducible refine (keyed (arg_key _ _) (by repeat' (first | (with_reducible exact HK.out) | (with_reducible apply Keeps.allocB) | (with_reducible apply Keeps.alloc) | (with_reducible apply Keeps.drew) | (with_reducible apply Keeps.drewN) | (with_reducible apply Keeps.setOwn) | (with_reducible apply Keeps.putOwn) | (with_reducible show (_ : Nat) ≤ _; omega)))).mono ?_); rintro e w1 ⟨rfl, k1⟩; clear HK; have HK := Lib.hid k1.k; have F1 := Lib.hid k1.f; obtain ⟨s0, own⟩ := k1.facts; simp only [go_sem] at own; clear k1) | (go_at_call 24; (with_reducible refine (get_ok _ (by repeat' (first | (with_reducible exact HK.out) | (with_reducible apply Keeps.allocB) | (with_reducible apply Keeps.alloc) | (with_reducible apply Keeps.drew) | (with_reducible apply Keeps.drewN) | (with_reducible apply Keeps.setOwn) | (with_reducible apply Keeps.putOwn) | (with_reducible show (_ : Nat) ≤ _; omega)))).mono ?_); rintro e w1 ⟨rfl, k1⟩; clear HK; have HK := Lib.hid k1.k; have F1 := Lib.hid k1.f; obtain ⟨s0, own⟩ := k1.facts; simp only [go_sem] at own; clear k1) | (go_at_call 26; refine (HW.out _).mono ?_; rintro e w' ⟨rfl, rfl⟩))
    go_region
    go_wp2_with fail
    go_region_with (first | (go_at_call 25; (with_reducible refine (keyed (arg_key _ _) (by repeat' (first | (with_reducible exact HK.out) | (with_reducible apply Keeps.allocB) | (with_reducible apply Keeps.alloc) | (with_reducible apply Keeps.drew) | (with_reducible apply Keeps.drewN) | (with_reducible apply Keeps.setOwn) | (with_reducible apply Keeps.putOwn) | (with_reducible show (_ : Nat) ≤ _; omega)))).mono ?_); rintro e w1 ⟨rfl, k1⟩; clear HK; have HK := Lib.hid k1.k; have F1 := Lib.hid k1.f; obtain ⟨s0, own⟩ := k1.facts; simp only [go_sem] at own; clear k1) | (go_at_call 27; (with_reducible refine (put_ok _ _ HX.out (by repeat' (first | (with_reducible exact HK.out) | (with_reducible apply Keeps.allocB) | (with_reducible apply Keeps.alloc) | (with_reducible apply Keeps.drew) | (with_reducible apply Keeps.drewN) | (with_reducible apply Keeps.setOwn) | (with_reducible apply Keeps.putOwn) | (with_reducible show (_ : Nat) ≤ _; omega)))).mono ?_); rintro e w1 ⟨rfl, k1⟩; clear HK; have HK := Lib.hid k1.k; have F1 := Lib.hid k1.f; obtain ⟨s0, own⟩ := k1.facts; simp only [go_sem] at own; clear k1))
    all_goals (
      go_wp2_with fail
      go_ret
      exact ⟨rfl, HH.out.kept (by repeat' (first | (with_reducible exact HK.out) | (with_reducible apply Keeps.allocB) | (with_reducible apply Keeps.alloc) | (with_reducible apply Keeps.drew) | (with_reducible apply Keeps.drewN) | (with_reducible apply Keeps.setOwn) | (with_reducible apply Keeps.putOwn) | (with_reducible show (_ : Nat) ≤ _; omega)))⟩)
  | false =>
    have HE := Lib.hid (show argPut σ p a d = (false, σ.got (memK p)) by unfold argPut; rw [if_neg (by rw [hf]; decide)])
    rw [HE.out]
    rw [hf] at HW
    clear hf
    go_enter Try.func9, Try.ntmps9
    go_wp2_with (first | (go_at_call 25; (with_reducible refine (keyed (arg_key _ _) (by repeat' (first | (with_reducible exact HK.out) | (with_reducible apply Keeps.allocB) | (with_reducible apply Keeps.alloc) | (with_reducible apply Keeps.drew) | (with_reducible apply Keeps.drewN) | (with_reducible apply Keeps.setOwn) | (with_reducible apply Keeps.putOwn) | (with_reducible show (_ : Nat) ≤ _; omega)))).mono ?_); rintro e w1 ⟨rfl, k1⟩; clear HK; have HK := Lib.hid k1.k; have F1 := Lib.hid k1.f; obtain ⟨s0, own⟩ := k1.facts; simp only [go_sem] at own; clear k1) | (go_at_call 24; (with_reducible refine (get_ok _ (by repeat' (first | (with_reducible exact HK.out) | (with_reducible apply Keeps.allocB) | (with_reducible apply Keeps.alloc) | (with_reducible apply Keeps.drew) | (with_reducible apply Keeps.drewN) | (with_reducible apply Keeps.setOwn) | (with_reducible apply Keeps.putOwn) | (with_reducible show (_ : Nat) ≤ _; omega)))).mono ?_); rintro e w1 ⟨rfl, k1⟩; clear HK; have HK := Lib.hid k1.k; have F1 := Lib.hid k1.f; obtain ⟨s0, own⟩ := k1.facts; simp only [go_sem] at own; clear k1) | (go_at_call 26; refine (HW.out _).mono ?_; rintro e w' ⟨rfl, rfl⟩))
    go_ret
    exact ⟨rfl, HH.out.kept (by repeat' (first | (with_reducible exact HK.out) | (with_reducible apply Keeps.allocB) | (with_reducible apply Keeps.alloc) | (with_reducible apply Keeps.drew) | (with_reducible apply Keeps.drewN) | (with_reducible apply Keeps.setOwn) | (with_reducible apply Keeps.putOwn) | (with_reducible show (_ : Nat) ≤ _; omega)))⟩
end Go.Proofs.Ytmgijchcfjmphaa
