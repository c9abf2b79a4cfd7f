import Derived.Test.YtmgijchcfjmphaaFdA
namespace Go.Proofs.Ytmgijchcfjmphaa
open Go.RowKit

theorem set_fin : ∀ n : Fin 256, ∀ k j : Fin 8, bit (setBit (n.val : Int) (k.val : Int)) (j.val : Int) = (if j.val = k.val then 1 else bit (n.val : Int) (j.val : Int)) ∧ 0 ≤ setBit (n.val : Int) (k.val : Int) ∧ setBit (n.val : Int) (k.val : Int) < 256 := by decide +kernel
theorem clr_fin : ∀ n : Fin 256, ∀ k j : Fin 8, bit (clrBit (n.val : Int) (k.val : Int)) (j.val : Int) = (if j.val = k.val then 0 else bit (n.val : Int) (j.val : Int)) ∧ 0 ≤ clrBit (n.val : Int) (k.val : Int) ∧ clrBit (n.val : Int) (k.val : Int) < 256 := by decide +kernel

/-- the table of processes: which are used, whose each is, its number -/
structure Tb (σ : St) (used : Nat → Bool) (par pid : Nat → Int) (last : Int) : Prop where
  lo : 0 ≤ (σ.get procsK).n 0 ∧ (σ.get procsK).n 0 < 256
  bits : ∀ k : Nat, k < 8 → bit ((σ.get procsK).n 0) k = if used k then 1 else 0
  cnt : (σ.get procsK).n 1 = last
  live : ∀ k : Nat, k < 8 → used k = true → (σ.get (procK k)).n 0 = 1 ∧ (σ.get (procK k)).n 1 = par k + 1 ∧ (σ.get (procK k)).n 2 = pid k ∧ 0 ≤ par k ∧ par k ≤ 7 ∧ 1 ≤ pid k ∧ pid k ≤ last
  inj : ∀ j k : Nat, j < 8 → k < 8 → used j = true → used k = true → pid j = pid k → j = k
  last : 0 ≤ last ∧ last ≤ 1000
section
variable {σ σ' : St} {used : Nat → Bool} {par pid : Nat → Int} {last : Int}
theorem Tb.congr (h : Tb σ used par pid last) (e : ∀ k, σ'.get k = σ.get k) : Tb σ' used par pid last :=
  ⟨by rw [e]; exact h.lo, fun k hk => by rw [e]; exact h.bits k hk, by rw [e]; exact h.cnt, fun k hk hu => by rw [e]; exact h.live k hk hu, h.inj, h.last⟩
theorem tb_get (h : Tb σ used par pid last) (k : Nat) (hk : k < 8) : (procGet σ k).1 = if used k then (σ.get (procK k), true) else (.ofS ⟨#[]⟩, false) := by
  unfold procGet
  rw [if_neg (by omega), h.bits k hk]
  cases hu : used k with
  | false => rw [if_pos (by simp)]; rfl
  | true =>
    rw [if_neg (by simp), St.get_got]
    simp [(h.live k hk hu).1]
theorem tb_got (h : Tb σ used par pid last) (p : Int) : Tb (procGet σ p).2 used par pid last := h.congr (fun k => procGet_get σ p k)
theorem tb_state (h : Tb σ used par pid last) (k : Nat) (hk : k < 8) : (procGet σ k).1.1.n 0 = (if used k then 1 else 0) := by
  rw [tb_get h k hk]
  cases hu : used k with
  | false => rfl
  | true => simp [(h.live k hk hu).1]
theorem tb_pidfrom (id : Int) : ∀ (l k : Nat) (σ : St), Tb σ used par pid last → Tb (byPidFrom id l k σ).2 used par pid last
  | 0, _, _, h => h
  | l + 1, k, σ, h => by
    unfold byPidFrom
    split
    · exact tb_got h k
    · exact tb_pidfrom id l (k + 1) _ (tb_got h k)
theorem tb_pid1 (q : Nat) (hq : q < 8) (hu : used q = true) : ∀ (l k : Nat) (σ : St), Tb σ used par pid last → k + l = 8 → k ≤ q → (byPidFrom (pid q) l k σ).1 = ((q : Int), true)
  | 0, k, _, _, h1, h2 => by omega
  | l + 1, k, σ, h, h1, h2 => by
    unfold byPidFrom
    rw [tb_get h k (by omega)]
    by_cases e : k = q
    · subst e
      rw [if_pos]
      rw [if_pos hu]
      exact ⟨rfl, (h.live k hq hu).2.2.1⟩
    · rw [if_neg]
      · exact tb_pid1 q hq hu l (k + 1) _ (tb_got h k) (by omega) (by omega)
      · rintro ⟨a, b⟩
        cases hk : used k with
        | false => rw [hk] at a; simp at a
        | true =>
          rw [hk] at b
          simp only [if_true] at b
          rw [(h.live k (by omega) hk).2.2.1] at b
          exact e (h.inj k q (by omega) hq hk hu b)
/-- whose children -/
def kidsL (used : Nat → Bool) (par : Nat → Int) (p : Int) : Nat → Nat → List Int
  | 0, _ => []
  | l + 1, k => if used k = true ∧ par k = p then (k : Int) :: kidsL used par p l (k + 1) else kidsL used par p l (k + 1)
theorem tb_kids (p : Int) (hp : 0 ≤ p ∧ p ≤ 7) : ∀ (l k : Nat) (acc : List Int) (σ : St), Tb σ used par pid last → k + l = 8 → (kidsFrom p l k acc σ).1 = acc ++ kidsL used par p l k ∧ Tb (kidsFrom p l k acc σ).2 used par pid last
  | 0, k, acc, σ, h, _ => ⟨by simp [kidsFrom, kidsL], h⟩
  | l + 1, k, acc, σ, h, hk => by
    unfold kidsFrom kidsL
    have r := fun acc' => tb_kids p hp l (k + 1) acc' _ (tb_got h k) (by omega)
    have hw : wrap64 (p + 1) = p + 1 := by unfold wrap64; omega
    rw [tb_get h k (by omega), hw]
    cases hu : used k with
    | false =>
      rw [if_neg (by simp), if_neg (by simp)]
      exact r acc
    | true =>
      have h1 := (h.live k (by omega) hu).2.1
      simp only [if_true, h1, true_and]
      by_cases e : par k = p
      · rw [if_pos (by omega), if_pos e]
        obtain ⟨r1, r2⟩ := r (acc ++ [(k : Int)])
        exact ⟨by rw [r1]; simp, r2⟩
      · rw [if_neg (by omega), if_neg e]
        exact r acc
theorem place_procK (q : Nat) (hq : q < 8) : (place (procK q)).isSome ∧ place procsK ≠ place (procK q) ∧ place (memK q) ≠ place procsK ∧ (∀ j : Nat, j < 8 → place (memK q) ≠ place (procK j)) ∧ ∀ j : Nat, j < 8 → j ≠ q → place (procK j) ≠ place (procK q) := by
  have h : ∀ q : Fin 8, (place (procK (q.val : Int))).isSome ∧ place procsK ≠ place (procK (q.val : Int)) ∧ place (memK (q.val : Int)) ≠ place procsK ∧ (∀ j : Fin 8, place (memK (q.val : Int)) ≠ place (procK (j.val : Int))) ∧ ∀ j : Fin 8, j.val ≠ q.val → place (procK (j.val : Int)) ≠ place (procK (q.val : Int)) := by decide +kernel
  obtain ⟨a, b, c, d, e⟩ := h ⟨q, hq⟩
  exact ⟨a, b, c, fun j hj => d ⟨j, hj⟩, fun j hj hn => e ⟨j, hj⟩ hn⟩
theorem tb_free (h : Tb σ used par pid last) (q : Nat) (hq : q < 8) : (procFree σ q).1 = used q ∧ Tb (procFree σ q).2 (upd used q false) par pid last := by
  have hg := tb_got h q
  unfold procFree
  rw [tb_get h q hq]
  cases hu : used q with
  | false =>
    rw [if_pos (by simp)]
    refine ⟨rfl, ?_⟩
    have e : upd used q false = used := by funext j; simp only [upd]; split; · subst_vars; exact hu.symm
                                           · rfl
    rw [e]; exact hg
  | true =>
    rw [if_neg (by simp)]
    refine ⟨rfl, ?_⟩
    obtain ⟨p1, p2, p3, p4, p5⟩ := place_procK q hq
    have gP : (((((procGet σ q).2.got procsK).put procsK (((procGet σ q).2.get procsK).set 0 (clrBit (((procGet σ q).2.get procsK).n 0) q))).put (procK q) (.ofS ⟨#[]⟩)).put (memK q) (.ofS ⟨#[]⟩)).get procsK = ((procGet σ q).2.get procsK).set 0 (clrBit (((procGet σ q).2.get procsK).n 0) q) := by
      rw [St.get_put_ne _ _ _ _ p3.symm, St.get_put_ne _ _ _ _ p2, St.get_put_same _ _ _ (by decide)]
    have gK : ∀ j : Nat, j < 8 → j ≠ q → (((((procGet σ q).2.got procsK).put procsK (((procGet σ q).2.get procsK).set 0 (clrBit (((procGet σ q).2.get procsK).n 0) q))).put (procK q) (.ofS ⟨#[]⟩)).put (memK q) (.ofS ⟨#[]⟩)).get (procK j) = (procGet σ q).2.get (procK j) := fun j hj hn => by
      rw [St.get_put_ne _ _ _ _ (p4 j hj).symm, St.get_put_ne _ _ _ _ (p5 j hj hn), St.get_put_ne _ _ _ _ ((place_procK j hj).2.1).symm, St.get_got]
    obtain ⟨n, hn⟩ : ∃ n : Nat, ((procGet σ q).2.get procsK).n 0 = n := ⟨(((procGet σ q).2.get procsK).n 0).toNat, by have := hg.lo; omega⟩
    have hn2 : n < 256 := by have := hg.lo; omega
    have hc := fun j (hj : j < 8) => clr_fin ⟨n, hn2⟩ ⟨q, hq⟩ ⟨j, hj⟩
    refine ⟨?_, fun k hk => ?_, ?_, fun k hk hk2 => ?_, fun j k hj hk h1 h2 => ?_, h.last⟩
    · rw [gP, Val.set_n, if_pos rfl, hn]; exact (hc 0 (by omega)).2
    · rw [gP, Val.set_n, if_pos rfl, hn, (hc k hk).1]
      by_cases e : k = q
      · subst e; simp [upd_self]
      · simp only [if_neg e, upd_ne _ _ e]; rw [← hn]; exact hg.bits k hk
    · rw [gP, Val.set_n, if_neg (by decide)]; exact hg.cnt
    · have e : k ≠ q := fun e => by subst e; simp [upd] at hk2
      rw [gK k hk e]
      simp only [upd, if_neg e] at hk2
      exact hg.live k hk hk2
    · have e1 : j ≠ q := fun e => by subst e; simp [upd] at h1
      have e2 : k ≠ q := fun e => by subst e; simp [upd] at h2
      simp only [upd, if_neg e1] at h1
      simp only [upd, if_neg e2] at h2
      exact h.inj j k hj hk h1 h2
theorem newFrom_spec (b : Int) (t : Val) (σ : St) (hb : ∀ k : Nat, k < 8 → bit (t.n 0) k = if used k then 1 else 0) : ∀ l k : Nat, k + l = 8 → (∀ j, j < k → used j = true) →
    (∃ q : Nat, q < 8 ∧ used q = false ∧ (∀ j, j < q → used j = true) ∧ newFrom b t σ l k = (((q : Int), true), (σ.put procsK (newTable t q)).put (procK q) (newProc t b))) ∨ ((∀ j, j < 8 → used j = true) ∧ newFrom b t σ l k = ((0, false), σ))
  | 0, k, h1, h2 => .inr ⟨fun j hj => h2 j (by omega), rfl⟩
  | l + 1, k, h1, h2 => by
    unfold newFrom
    rw [hb k (by omega)]
    cases hu : used k with
    | true =>
      rw [if_pos (by simp)]
      exact newFrom_spec b t σ hb l (k + 1) (by omega) (fun j hj => by
        by_cases e : j = k
        · subst e; exact hu
        · exact h2 j (by omega))
    | false =>
      rw [if_neg (by simp)]
      exact .inl ⟨k, by omega, hu, h2, rfl⟩
theorem tb_new (h : Tb σ used par pid last) (p : Int) (hp : 0 ≤ p ∧ p ≤ 7) (hl : last ≤ 999) :
    (∃ q : Nat, q < 8 ∧ used q = false ∧ (∀ j, j < q → used j = true) ∧ (procNew σ p).1 = ((q : Int), true) ∧ Tb (procNew σ p).2 (upd used q true) (upd par q p) (upd pid q (last + 1)) (last + 1)) ∨
      ((∀ j, j < 8 → used j = true) ∧ (procNew σ p).1 = (0, false) ∧ Tb (procNew σ p).2 used par pid last) := by
  unfold procNew
  rcases newFrom_spec p (σ.get procsK) (σ.got procsK) h.bits 8 0 rfl (fun j hj => by omega) with ⟨q, hq, hu, hall, e⟩ | ⟨hall, e⟩
  · refine .inl ⟨q, hq, hu, hall, by rw [e], ?_⟩
    rw [e]
    obtain ⟨p1, p2, p3, p4, p5⟩ := place_procK q hq
    have gP : (((σ.got procsK).put procsK (newTable (σ.get procsK) q)).put (procK q) (newProc (σ.get procsK) p)).get procsK = newTable (σ.get procsK) q := by
      rw [St.get_put_ne _ _ _ _ p2, St.get_put_same _ _ _ (by decide)]
    have gQ : (((σ.got procsK).put procsK (newTable (σ.get procsK) q)).put (procK q) (newProc (σ.get procsK) p)).get (procK q) = newProc (σ.get procsK) p := St.get_put_same _ _ _ p1
    have gK : ∀ j : Nat, j < 8 → j ≠ q → (((σ.got procsK).put procsK (newTable (σ.get procsK) q)).put (procK q) (newProc (σ.get procsK) p)).get (procK j) = σ.get (procK j) := fun j hj hn => by
      rw [St.get_put_ne _ _ _ _ (p5 j hj hn), St.get_put_ne _ _ _ _ ((place_procK j hj).2.1).symm, St.get_got]
    obtain ⟨n, hn⟩ : ∃ n : Nat, (σ.get procsK).n 0 = n := ⟨((σ.get procsK).n 0).toNat, by have := h.lo; omega⟩
    have hn2 : n < 256 := by have := h.lo; omega
    have hc := fun j (hj : j < 8) => set_fin ⟨n, hn2⟩ ⟨q, hq⟩ ⟨j, hj⟩
    have hw : wrap64 ((σ.get procsK).n 1 + 1) = last + 1 := by rw [h.cnt]; have := h.last; unfold wrap64; omega
    have hw2 : wrap64 (p + 1) = p + 1 := by unfold wrap64; omega
    have hla := h.last
    have t0 : (newTable (σ.get procsK) q).n 0 = setBit n q := by unfold newTable; rw [Val.set_n, if_neg (by decide), Val.set_n, if_pos rfl, hn]
    have t1 : (newTable (σ.get procsK) q).n 1 = last + 1 := by unfold newTable; rw [Val.set_n, if_pos rfl, hw]
    have r0 : (newProc (σ.get procsK) p).n 0 = 1 := by unfold newProc; rw [Val.set_n, if_neg (by decide), Val.set_n, if_neg (by decide), Val.set_n, if_pos rfl]
    have r1 : (newProc (σ.get procsK) p).n 1 = p + 1 := by unfold newProc; rw [Val.set_n, if_neg (by decide), Val.set_n, if_pos rfl, hw2]
    have r2 : (newProc (σ.get procsK) p).n 2 = last + 1 := by unfold newProc; rw [Val.set_n, if_pos rfl, hw]
    refine ⟨?_, fun k hk => ?_, ?_, fun k hk hk2 => ?_, fun j k hj hk h1 h2 => ?_, by omega⟩
    · rw [gP, t0]; exact (hc 0 (by omega)).2
    · rw [gP, t0, (hc k hk).1]
      by_cases e : k = q
      · subst e; simp [upd_self]
      · simp only [if_neg e, upd_ne _ _ e]; rw [← hn]; exact h.bits k hk
    · rw [gP, t1]
    · by_cases e : k = q
      · subst e
        rw [gQ, upd_self, upd_self]
        exact ⟨r0, r1, r2, hp.1, hp.2, by omega, by omega⟩
      · rw [gK k hk e, upd_ne _ _ e, upd_ne _ _ e]
        rw [upd_ne _ _ e] at hk2
        obtain ⟨a1, a2, a3, a4, a5, a6, a7⟩ := h.live k hk hk2
        exact ⟨a1, a2, a3, a4, a5, a6, by omega⟩
    · by_cases e1 : j = q
      · by_cases e2 : k = q
        · omega
        · subst e1
          rw [upd_ne _ _ e2] at h2
          intro hp'
          rw [upd_self, upd_ne _ _ e2] at hp'
          have := (h.live k hk h2).2.2.2.2.2.2
          omega
      · rw [upd_ne _ _ e1] at h1
        by_cases e2 : k = q
        · subst e2
          intro hp'
          rw [upd_self, upd_ne _ _ e1] at hp'
          have := (h.live j hj h1).2.2.2.2.2.2
          omega
        · rw [upd_ne _ _ e2] at h2
          rw [upd_ne _ _ e1, upd_ne _ _ e2]
          exact h.inj j k hj hk h1 h2
  · rw [e]
    exact .inr ⟨hall, rfl, h.congr (fun k => by show (σ.got procsK).get k = _; exact St.get_got _ _ _)⟩
theorem tb0 : Tb bare (fun _ => false) (fun _ => 0) (fun _ => 0) 0 := by
  have hg : ∀ k, bare.get k = Val.zero := fun k => by
    unfold St.get
    cases place k <;> rfl
  refine ⟨by rw [hg]; decide, fun k hk => ?_, by rw [hg]; rfl, fun k hk h => by simp at h, fun j k _ _ h => by simp at h, by omega⟩
  rw [hg]
  have : ∀ k : Fin 8, bit (Val.zero.n 0) (k.val : Int) = 0 := by decide +kernel
  exact this ⟨k, hk⟩
/-- how many are used -/
def cntU (u : Nat → Bool) : Nat := (u 0).toNat + (u 1).toNat + (u 2).toNat + (u 3).toNat + (u 4).toNat + (u 5).toNat + (u 6).toNat + (u 7).toNat
theorem cntU_upd (u : Nat → Bool) (q : Nat) (hq : q < 8) (x : Bool) : cntU (upd u q x) + (u q).toNat = cntU u + x.toNat := by
  match q, hq with
  | 0, _ => simp [cntU, upd]; omega
  | 1, _ => simp [cntU, upd]; omega
  | 2, _ => simp [cntU, upd]; omega
  | 3, _ => simp [cntU, upd]; omega
  | 4, _ => simp [cntU, upd]; omega
  | 5, _ => simp [cntU, upd]; omega
  | 6, _ => simp [cntU, upd]; omega
  | 7, _ => simp [cntU, upd]; omega
theorem toNat_le1 (x : Bool) : x.toNat ≤ 1 := by cases x <;> decide
theorem cntU_le (u : Nat → Bool) : cntU u ≤ 8 := by
  have := toNat_le1 (u 0); have := toNat_le1 (u 1); have := toNat_le1 (u 2); have := toNat_le1 (u 3)
  have := toNat_le1 (u 4); have := toNat_le1 (u 5); have := toNat_le1 (u 6); have := toNat_le1 (u 7)
  unfold cntU; omega
theorem cntU_all (u : Nat → Bool) (h : ∀ j, j < 8 → u j = true) : cntU u = 8 := by
  simp [cntU, h 0, h 1, h 2, h 3, h 4, h 5, h 6, h 7]
theorem cntU_lt (u : Nat → Bool) (q : Nat) (hq : q < 8) (h : u q = false) : cntU u < 8 := by
  have h1 := cntU_upd u q hq true
  have h2 := cntU_le (upd u q true)
  rw [h] at h1
  simp at h1
  omega
end
end Go.Proofs.Ytmgijchcfjmphaa
