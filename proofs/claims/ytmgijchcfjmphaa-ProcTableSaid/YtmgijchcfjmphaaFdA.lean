import Derived.Test.YtmgijchcfjmphaaProcA
namespace Go.Proofs.Ytmgijchcfjmphaa
open Go.RowKit

theorem St.get_put_same (σ : St) (k : Key) (x : Val) (h : (place k).isSome) : (σ.put k x).get k = x := by
  unfold St.put St.get
  cases hp : place k with
  | none => rw [hp] at h; simp at h
  | some p => simp [upd]
theorem St.get_put_ne (σ : St) (k q : Key) (x : Val) (h : place q ≠ place k) : (σ.put k x).get q = σ.get q := by
  unfold St.put St.get
  cases hp : place k with
  | none => rfl
  | some p =>
    cases hq : place q with
    | none => rfl
    | some r =>
      have : r ≠ p := fun e => h (by rw [hp, hq, e])
      simp [upd, this]
/-- processes 0 and 1 alone are there; their descriptors are `own` -/
structure Fds (σ : St) (own : Nat → Nat → Int) : Prop where
  tab : (σ.get procsK).n 0 = 3
  live : ∀ q : Nat, q < 2 → (σ.get (procK q)).n 0 ≠ 0
  fd : ∀ q k : Nat, q < 2 → k < 6 → (σ.get (procK q)).n (8 + k) = own q k ∧ 0 ≤ own q k ∧ own q k ≤ 12
theorem Fds.congr {σ σ' : St} {own : Nat → Nat → Int} (h : Fds σ own) (e : ∀ k, σ'.get k = σ.get k) : Fds σ' own :=
  ⟨by rw [e]; exact h.tab, fun q hq => by rw [e]; exact h.live q hq, fun q k hq hk => by rw [e]; exact h.fd q k hq hk⟩
theorem fds_get {σ : St} {own : Nat → Nat → Int} (h : Fds σ own) (q : Nat) (hq : q < 2) : procGet σ q = ((σ.get (procK q), true), (σ.got procsK).got (procK q)) := by
  unfold procGet
  rw [if_neg (by omega), if_neg, St.get_got]
  · rw [show (((σ.get (procK q)).n 0 != 0) = true) from by rw [bne_iff_ne]; exact h.live q hq]
  · rw [h.tab]
    match q, hq with
    | 0, _ => decide
    | 1, _ => decide
theorem fds_get2 {σ : St} {own : Nat → Nat → Int} (h : Fds σ own) : procGet σ 2 = ((.ofS ⟨#[]⟩, false), σ.got procsK) := by
  unfold procGet
  rw [if_neg (by omega), if_pos]
  rw [h.tab]; decide
theorem fds_got {σ : St} {own : Nat → Nat → Int} (h : Fds σ own) (q : Nat) (hq : q < 2) : Fds (procGet σ q).2 own := by
  rw [fds_get h q hq]
  exact h.congr (fun k => by rw [St.get_got, St.get_got])
theorem fds_got2 {σ : St} {own : Nat → Nat → Int} (h : Fds σ own) : Fds (procGet σ 2).2 own := by
  rw [fds_get2 h]
  exact h.congr (fun k => by rw [St.get_got])
theorem fds_fd {σ : St} {own : Nat → Nat → Int} (h : Fds σ own) (q k : Nat) (hq : q < 2) (hk : k < 6) :
    (procFd σ q k).1 = (if 0 < own q k then (own q k - 1, true) else (0, false)) ∧ Fds (procFd σ q k).2 own := by
  obtain ⟨e, h1, h2⟩ := h.fd q k hq hk
  have hg := fds_got h q hq
  unfold procFd
  rw [show (procGet σ q).1 = (σ.get (procK q), true) by rw [fds_get h q hq]]
  rw [if_neg (by simp; omega)]
  simp only
  rw [show (8 + (k : Int)).toNat = 8 + k by omega, e]
  by_cases hp : 0 < own q k
  · rw [if_neg (by omega), if_pos hp]; exact ⟨rfl, hg⟩
  · rw [if_pos (by omega), if_neg hp]; exact ⟨rfl, hg⟩
def own1 (own : Nat → Nat → Int) (p d : Nat) (x : Int) : Nat → Nat → Int := fun q k => if q = p ∧ k = d then x else own q k
theorem fds_set {σ : St} {own : Nat → Nat → Int} (h : Fds σ own) (p d : Nat) (f : Int) (hp : p < 2) (hd : d < 6) (hf : -1 ≤ f ∧ f ≤ 11) :
    (procSetFd σ p d f).1 = true ∧ Fds (procSetFd σ p d f).2 (own1 own p d (f + 1)) := by
  have hg := fds_got h p hp
  unfold procSetFd
  rw [show (procGet σ p).1 = (σ.get (procK p), true) by rw [fds_get h p hp]]
  rw [if_neg (by simp; omega)]
  rw [show (if f < 0 then 0 else f + 1) = f + 1 by split <;> omega, show (8 + (d : Int)).toNat = 8 + d by omega]
  refine ⟨rfl, ?_⟩
  have gp : ∀ k, ((procGet σ p).2.get k) = σ.get k := fun k => by rw [fds_get h p hp]; rw [St.get_got, St.get_got]
  have hs : (place (procK p)).isSome := by
    match p, hp with
    | 0, _ => decide
    | 1, _ => decide
  have hne : place procsK ≠ place (procK p) := by
    match p, hp with
    | 0, _ => decide
    | 1, _ => decide
  have hn2 : ∀ q : Nat, q < 2 → q ≠ p → place (procK q) ≠ place (procK p) := fun q hq hqp e => by
    have := place_inj e (by match q, hq with
      | 0, _ => decide
      | 1, _ => decide)
    simp [procK] at this
    omega
  refine ⟨?_, fun q hq => ?_, fun q k hq hk => ?_⟩
  · rw [St.get_put_ne _ _ _ _ hne]; exact hg.tab
  · by_cases hqp : q = p
    · subst hqp
      rw [St.get_put_same _ _ _ hs]
      simp only [Val.set_n]
      rw [if_neg (by omega)]
      exact h.live q hq
    · rw [St.get_put_ne _ _ _ _ (hn2 q hq hqp)]; exact hg.live q hq
  · by_cases hqp : q = p
    · subst hqp
      rw [St.get_put_same _ _ _ hs]
      simp only [Val.set_n, own1]
      by_cases hkd : k = d
      · subst hkd; simp; omega
      · rw [if_neg (by omega), if_neg (by omega)]; exact h.fd q k hq hk
    · rw [St.get_put_ne _ _ _ _ (hn2 q hq hqp)]
      unfold own1
      rw [if_neg (by omega)]
      exact hg.fd q k hq hk
theorem fds_set_no {σ : St} {own : Nat → Nat → Int} (h : Fds σ own) (p : Nat) (d f : Int) (hp : p < 2) (hno : 6 ≤ d ∨ 12 ≤ f) : (procSetFd σ p d f).1 = false ∧ Fds (procSetFd σ p d f).2 own := by
  have hg := fds_got h p hp
  unfold procSetFd
  rw [if_pos (by omega)]
  exact ⟨rfl, hg⟩
theorem fds_set_two {σ : St} {own : Nat → Nat → Int} (h : Fds σ own) (d f : Int) : (procSetFd σ 2 d f).1 = false ∧ Fds (procSetFd σ 2 d f).2 own := by
  have hg := fds_got2 h
  unfold procSetFd
  rw [if_pos (.inl (by rw [fds_get2 h]))]
  exact ⟨rfl, hg⟩
/-- the least that is free, from k on -/
def lfree (o : Nat → Int) : Nat → Nat → Int
  | 0, _ => -1
  | l + 1, k => if o k < 1 then k else lfree o l (k + 1)
theorem fds_freefrom {own : Nat → Nat → Int} (q : Nat) (hq : q < 2) : ∀ (l k : Nat) (σ : St), Fds σ own → k + l = 6 →
    (freeFdFrom q l k σ).1 = (if 0 ≤ lfree (own q) l k then (lfree (own q) l k, true) else (0, false)) ∧ Fds (freeFdFrom q l k σ).2 own
  | 0, k, σ, h, _ => ⟨rfl, h⟩
  | l + 1, k, σ, h, hk => by
    obtain ⟨h1, h2⟩ := fds_fd h q k hq (by omega)
    unfold freeFdFrom
    rw [h1]
    by_cases hp : 0 < own q k
    · have hl : lfree (own q) (l + 1) k = lfree (own q) l (k + 1) := by show (if own q k < 1 then (k : Int) else _) = _; rw [if_neg (by omega)]
      rw [if_pos hp, if_neg (by simp), hl]
      exact fds_freefrom q hq l (k + 1) _ h2 (by omega)
    · have hl : lfree (own q) (l + 1) k = k := by show (if own q k < 1 then (k : Int) else _) = _; rw [if_pos (by omega)]
      rw [if_neg hp, if_pos rfl, hl]
      exact ⟨by rw [if_pos (by omega)], h2⟩
theorem fds_free {σ : St} {own : Nat → Nat → Int} (h : Fds σ own) (q : Nat) (hq : q < 2) :
    (procFreeFd σ q).1 = (if 0 ≤ lfree (own q) 6 0 then (lfree (own q) 6 0, true) else (0, false)) ∧ Fds (procFreeFd σ q).2 own := by
  unfold procFreeFd
  rw [if_neg (by rw [fds_get h q hq]; simp)]
  exact fds_freefrom q hq 6 0 _ (fds_got h q hq) rfl
theorem fds0 : Fds (procNew (procNew bare (-1)).2 0).2 (fun _ _ => 0) :=
  ⟨by decide +kernel, fun q hq => by
    match q, hq with
    | 0, _ => decide +kernel
    | 1, _ => decide +kernel, fun q k hq hk => by
    have : ∀ q : Fin 2, ∀ k : Fin 6, (((procNew (procNew bare (-1)).2 0).2.get (procK (q.val : Int))).n (8 + k.val)) = 0 := by decide +kernel
    exact ⟨this ⟨q, hq⟩ ⟨k, hk⟩, by omega, by omega⟩⟩

/-- the view stands so that the descriptors are `own` -/
def Kp (V : Vw) (w0 : World) (own : Nat → Nat → Int) (O : List Own1) (w : World) : Prop := ∃ σ, Fds σ own ∧ Keeps V w0 σ O w
/-- what such a call comes to -/
def RetP (V : Vw) (w0 : World) (own : Nat → Nat → Int) (O : List Own1) (w : World) (v : Value) (e : Ending) (w' : World) : Prop := e = .returned v ∧ Kp V w0 own O w' ∧ Fr V.foot w w' ∧ w0.heap.size ≤ w'.heap.size ∧ OwnF w' O
theorem retP {V : Vw} {w0 w : World} {own : Nat → Nat → Int} {O : List Own1} {v : Value} {σ : St} (h : Fds σ own) {e : Ending} {w' : World} (k : Ret V w0 O w v σ e w') : RetP V w0 own O w v e w' :=
  ⟨k.1, ⟨σ, h, k.2.k⟩, k.2.f, k.2.facts.1, k.2.facts.2⟩
section
variable {V : Vw} {w0 w : World} {own : Nat → Nat → Int} {O : List Own1}
theorem kp_fd (q k : Nat) (hq : q < 2) (hk : k < 6) (h : Kp V w0 own O w) : Calls Try.prog 22 #[V.p, .int .i64 q, .int .i64 k] w
    (RetP V w0 own O w (.tuple #[.int .i64 (if 0 < own q k then own q k - 1 else 0), .bool (decide (0 < own q k))])) := by
  obtain ⟨σ, hF, hK⟩ := h
  obtain ⟨h1, h2⟩ := fds_fd hF q k hq hk
  have c := proc_fd q k hK
  rw [h1] at c
  refine c.mono fun e w' r => retP h2 ?_
  by_cases hp : 0 < own q k
  · rw [if_pos hp] at r; rw [if_pos hp, decide_eq_true hp]; exact r
  · rw [if_neg hp] at r; rw [if_neg hp, decide_eq_false hp]; exact r
theorem kp_set (p d : Nat) (f : Int) (hp : p < 2) (hd : d < 6) (hf : -1 ≤ f ∧ f ≤ 11) (h : Kp V w0 own O w) : Calls Try.prog 18 #[V.p, .int .i64 p, .int .i64 d, .int .i64 f] w
    (RetP V w0 (own1 own p d (f + 1)) O w (.bool true)) := by
  obtain ⟨σ, hF, hK⟩ := h
  obtain ⟨h1, h2⟩ := fds_set hF p d f hp hd hf
  have c := proc_setfd p d f hK
  rw [h1] at c
  exact c.mono fun e w' r => retP h2 r
theorem kp_set_no (p : Nat) (d f : Int) (hp : p < 2) (hno : 6 ≤ d ∨ 12 ≤ f) (h : Kp V w0 own O w) : Calls Try.prog 18 #[V.p, .int .i64 p, .int .i64 d, .int .i64 f] w
    (RetP V w0 own O w (.bool false)) := by
  obtain ⟨σ, hF, hK⟩ := h
  obtain ⟨h1, h2⟩ := fds_set_no hF p d f hp hno
  have c := proc_setfd p d f hK
  rw [h1] at c
  exact c.mono fun e w' r => retP h2 r
theorem kp_set_two (d f : Int) (h : Kp V w0 own O w) : Calls Try.prog 18 #[V.p, .int .i64 2, .int .i64 d, .int .i64 f] w
    (RetP V w0 own O w (.bool false)) := by
  obtain ⟨σ, hF, hK⟩ := h
  obtain ⟨h1, h2⟩ := fds_set_two hF d f
  have c := proc_setfd 2 d f hK
  rw [h1] at c
  exact c.mono fun e w' r => retP h2 r
theorem kp_free (q : Nat) (hq : q < 2) (h : Kp V w0 own O w) : Calls Try.prog 19 #[V.p, .int .i64 q] w
    (RetP V w0 own O w (.tuple #[.int .i64 (if 0 ≤ lfree (own q) 6 0 then lfree (own q) 6 0 else 0), .bool (decide (0 ≤ lfree (own q) 6 0))])) := by
  obtain ⟨σ, hF, hK⟩ := h
  obtain ⟨h1, h2⟩ := fds_free hF q hq
  have c := proc_freefd q hK
  rw [h1] at c
  refine c.mono fun e w' r => retP h2 ?_
  by_cases hp : 0 ≤ lfree (own q) 6 0
  · rw [if_pos hp] at r; rw [if_pos hp, decide_eq_true hp]; exact r
  · rw [if_neg hp] at r; rw [if_neg hp, decide_eq_false hp]; exact r
end
end Go.Proofs.Ytmgijchcfjmphaa
