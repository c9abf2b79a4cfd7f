import Derived.Test.YtkclbgoagcpckaaHartS
namespace Go.Proofs.Ytkclbgoagcpckaa
open Go.RowKit

/-! HartPlays: the law's own books -/
theorem nd_at {l : List Nat} (h : l.Nodup) (i j : Nat) {x y : Nat} (hx : l[i]? = some x) (hy : l[j]? = some y) (hij : i ≠ j) : x ≠ y := by
  intro e
  subst e
  obtain ⟨h1, h2⟩ := List.getElem?_eq_some_iff.1 hx
  obtain ⟨h3, h4⟩ := List.getElem?_eq_some_iff.1 hy
  exact hij ((List.getElem_inj h).1 (h2.trans h4.symm))

structure HBk (bo bw bs bm n : Nat) (on wa : Nat → Bool) (ne : Nat → Int) (ma : Nat → Nat → Bool) (w : World) : Prop where
  o : Arr w bo n (fun i => .bool (on i)) 4
  k : Arr w bw n (fun i => .bool (wa i)) 4
  s : Arr w bs n (fun i => .int .i64 (ne i)) 3
  m : Rec w bm n 8 (fun i j => .bool (ma i j)) 54

section
variable {bo bw bs bm n : Nat} {on wa : Nat → Bool} {ne : Nat → Int} {ma : Nat → Nat → Bool} {w : World} (h : HBk bo bw bs bm n on wa ne ma w)
include h
theorem HBk.fr {S : Nat → Prop} {w' : World} (f : Fr S w w') (hs : ¬ S bo ∧ ¬ S bw ∧ ¬ S bs ∧ ¬ S bm) : HBk bo bw bs bm n on wa ne ma w' := ⟨h.o.fr f hs.1, h.k.fr f hs.2.1, h.s.fr f hs.2.2.1, h.m.fr f hs.2.2.2⟩
theorem HBk.setO (nd : [bo, bw, bs, bm].Nodup) (i : Nat) (v : Bool) : HBk bo bw bs bm n (upd on i v) wa ne ma (w.setCell ⟨bo, i, none⟩ (.bool v)) :=
  ⟨(h.o.set i _).congr (fun q _ => by simp only [upd]; split <;> rfl), h.k.other (nd_at nd 0 1 rfl rfl (by decide)) _, h.s.other (nd_at nd 0 2 rfl rfl (by decide)) _, h.m.other (nd_at nd 0 3 rfl rfl (by decide)) _⟩
theorem HBk.setK (nd : [bo, bw, bs, bm].Nodup) (i : Nat) (v : Bool) : HBk bo bw bs bm n on (upd wa i v) ne ma (w.setCell ⟨bw, i, none⟩ (.bool v)) :=
  ⟨h.o.other (nd_at nd 1 0 rfl rfl (by decide)) _, (h.k.set i _).congr (fun q _ => by simp only [upd]; split <;> rfl), h.s.other (nd_at nd 1 2 rfl rfl (by decide)) _, h.m.other (nd_at nd 1 3 rfl rfl (by decide)) _⟩
theorem HBk.setS (nd : [bo, bw, bs, bm].Nodup) (i : Nat) (v : Int) : HBk bo bw bs bm n on wa (upd ne i v) ma (w.setCell ⟨bs, i, none⟩ (.int .i64 v)) :=
  ⟨h.o.other (nd_at nd 2 0 rfl rfl (by decide)) _, h.k.other (nd_at nd 2 1 rfl rfl (by decide)) _, (h.s.set i _).congr (fun q _ => by simp only [upd]; split <;> rfl), h.m.other (nd_at nd 2 3 rfl rfl (by decide)) _⟩
theorem HBk.setM (nd : [bo, bw, bs, bm].Nodup) (i : Nat) {q : Nat} (hq : q < 8) (v : Bool) : HBk bo bw bs bm n on wa ne (upd ma i (upd (ma i) q v)) (w.setCell ⟨bm, i * 8 + q, none⟩ (.bool v)) :=
  ⟨h.o.other (nd_at nd 3 0 rfl rfl (by decide)) _, h.k.other (nd_at nd 3 1 rfl rfl (by decide)) _, h.s.other (nd_at nd 3 2 rfl rfl (by decide)) _, (h.m.set hq _).congr (fun i' j' _ _ => by
    simp only [upd]
    by_cases e : i' = i
    · subst e
      by_cases e2 : j' = q
      · simp [e2, upd]
      · simp [e2, upd]
    · simp [e])⟩
end

/-- the books say what the harts are -/
def HRel (n mx : Nat) (F : Nat → HOne) (on wa : Nat → Bool) (ne : Nat → Int) (ma : Nat → Nat → Bool) : Prop :=
  ∀ i, i < n → on i = (F i).on ∧ ne i = (F i).nest ∧ (∀ j, j < 8 → ma i j = hasb (F i).mail j) ∧ ((F i).nest ≠ 0 → wa i = (F i).kept) ∧ (F i).nest ≤ mx ∧ (F i).mail < 256

section
variable {n mx : Nat} {F : Nat → HOne} {on wa : Nat → Bool} {ne : Nat → Int} {ma : Nat → Nat → Bool} (h : HRel n mx F on wa ne ma)
include h
theorem HRel.up : HRel n (mx + 1) F on wa ne ma := fun i hi => by
  obtain ⟨h1, h2, h3, h4, h5, h6⟩ := h i hi
  exact ⟨h1, h2, h3, h4, by omega, h6⟩
theorem HRel.one {i : Nat} (hi : i < n) {o : HOne} {on' wa' : Bool} {ne' : Int} {ma' : Nat → Bool} (k1 : on' = o.on) (k2 : ne' = o.nest) (k3 : ∀ j, j < 8 → ma' j = hasb o.mail j) (k4 : o.nest ≠ 0 → wa' = o.kept) (k5 : o.nest ≤ mx + 1) (k6 : o.mail < 256) :
    HRel n (mx + 1) (upd F i o) (upd on i on') (upd wa i wa') (upd ne i ne') (upd ma i ma') := fun j hj => by
  by_cases e : j = i
  · subst e
    simp only [upd_self]
    exact ⟨k1, k2, k3, k4, k5, k6⟩
  · simp only [upd_ne _ _ e]
    obtain ⟨h1, h2, h3, h4, h5, h6⟩ := h j hj
    exact ⟨h1, h2, h3, h4, by omega, h6⟩
omit h in
theorem upd_id {α : Type} (f : Nat → α) (i : Nat) : upd f i (f i) = f := by
  funext j; unfold upd; split
  · rename_i e; rw [e]
  · rfl
theorem HRel.set {i : Nat} (hi : i < n) (v : Bool) : HRel n (mx + 1) (upd F i { F i with on := v }) (upd on i v) wa ne ma := by
  obtain ⟨h1, h2, h3, h4, h5, h6⟩ := h i hi
  have := h.one hi (o := { F i with on := v }) (on' := v) (wa' := wa i) (ne' := ne i) (ma' := ma i) rfl h2 h3 h4 (by show (F i).nest ≤ _; omega) h6
  rwa [upd_id, upd_id, upd_id] at this
theorem HRel.push0 {i : Nat} (hi : i < n) (hz : (F i).nest = 0) : HRel n (mx + 1) (upd F i ⟨false, (F i).on, 1, (F i).mail⟩) (upd on i false) (upd wa i (on i)) (upd ne i (ne i + 1)) ma := by
  obtain ⟨h1, h2, h3, h4, h5, h6⟩ := h i hi
  have := h.one hi (o := ⟨false, (F i).on, 1, (F i).mail⟩) (on' := false) (wa' := on i) (ne' := ne i + 1) (ma' := ma i) rfl (by rw [h2, hz]; rfl) h3 (fun _ => h1) (by show 1 ≤ _; omega) h6
  rwa [upd_id ma] at this
theorem HRel.push1 {i : Nat} (hi : i < n) (hz : (F i).nest ≠ 0) : HRel n (mx + 1) (upd F i ⟨false, (F i).kept, (F i).nest + 1, (F i).mail⟩) (upd on i false) wa (upd ne i (ne i + 1)) ma := by
  obtain ⟨h1, h2, h3, h4, h5, h6⟩ := h i hi
  have := h.one hi (o := ⟨false, (F i).kept, (F i).nest + 1, (F i).mail⟩) (on' := false) (wa' := wa i) (ne' := ne i + 1) (ma' := ma i) rfl (by rw [h2]; rfl) h3 (fun _ => h4 hz) (by show (F i).nest + 1 ≤ _; omega) h6
  rwa [upd_id ma, upd_id wa] at this
theorem HRel.pop1 {i : Nat} (hi : i < n) (hz : (F i).nest = 1) : HRel n (mx + 1) (upd F i ⟨(F i).kept, (F i).kept, 0, (F i).mail⟩) (upd on i (wa i)) wa (upd ne i (ne i - 1)) ma := by
  obtain ⟨h1, h2, h3, h4, h5, h6⟩ := h i hi
  have := h.one hi (o := ⟨(F i).kept, (F i).kept, 0, (F i).mail⟩) (on' := wa i) (wa' := wa i) (ne' := ne i - 1) (ma' := ma i) (h4 (by omega)) (by rw [h2, hz]; rfl) h3 (fun h => absurd rfl h) (by show 0 ≤ _; omega) h6
  rwa [upd_id ma, upd_id wa] at this
theorem HRel.pop2 {i : Nat} (hi : i < n) (hz : 2 ≤ (F i).nest) : HRel n (mx + 1) (upd F i { F i with nest := (F i).nest - 1 }) on wa (upd ne i (ne i - 1)) ma := by
  obtain ⟨h1, h2, h3, h4, h5, h6⟩ := h i hi
  have := h.one hi (o := { F i with nest := (F i).nest - 1 }) (on' := on i) (wa' := wa i) (ne' := ne i - 1) (ma' := ma i) h1 (by rw [h2]; show ((F i).nest : Int) - 1 = (((F i).nest - 1 : Nat) : Int); omega) h3 (fun _ => h4 (by omega)) (by show (F i).nest - 1 ≤ _; omega) h6
  rwa [upd_id ma, upd_id wa, upd_id on] at this
theorem HRel.post {i q : Nat} (hi : i < n) (hq : q < 8) : HRel n (mx + 1) (upd F i { F i with mail := putb (F i).mail q }) on wa ne (upd ma i (upd (ma i) q true)) := by
  obtain ⟨h1, h2, h3, h4, h5, h6⟩ := h i hi
  have := h.one hi (o := { F i with mail := putb (F i).mail q }) (on' := on i) (wa' := wa i) (ne' := ne i) (ma' := upd (ma i) q true) h1 h2 (fun j hj => by
    show upd (ma i) q true j = hasb (putb (F i).mail q) j
    rw [putb_has _ _ _ h6 hq hj]
    simp only [upd]
    by_cases e : j = q
    · simp [e]
    · simp [e, h3 j hj]) h4 (by show (F i).nest ≤ _; omega) (putb_lt _ _ h6 hq)
  rwa [upd_id ne, upd_id wa, upd_id on] at this
theorem HRel.take {i q : Nat} (hi : i < n) (hq : q < 8) : HRel n (mx + 1) (upd F i { F i with mail := takeb (F i).mail q }) on wa ne (upd ma i (upd (ma i) q false)) := by
  obtain ⟨h1, h2, h3, h4, h5, h6⟩ := h i hi
  have := h.one hi (o := { F i with mail := takeb (F i).mail q }) (on' := on i) (wa' := wa i) (ne' := ne i) (ma' := upd (ma i) q false) h1 h2 (fun j hj => by
    show upd (ma i) q false j = hasb (takeb (F i).mail q) j
    rw [takeb_has _ _ _ h6 hq hj]
    simp only [upd]
    by_cases e : j = q
    · simp [e]
    · simp [e, h3 j hj]) h4 (by show (F i).nest ≤ _; omega) (takeb_lt _ _ h6 hq)
  rwa [upd_id ne, upd_id wa, upd_id on] at this
end

/-- the least mail, as the law looks for it -/
theorem least_mail {x : Nat} (h : x < 256) : (x = 0 ∧ ∀ j, j < 8 → hasb x j = false) ∨ (x ≠ 0 ∧ tzn x < 8 ∧ hasb x (tzn x) = true ∧ ∀ j, j < tzn x → hasb x j = false) := by
  by_cases e : x = 0
  · subst e
    exact .inl ⟨rfl, fun j _ => by simp [hasb]⟩
  · exact .inr ⟨e, tzn_lt x e h, tzn_is x e h, fun j hj => tzn_least x h j hj⟩
/-- is there any mail? -/
def anyb (x : Nat) : Nat → Bool
  | 0 => false
  | j + 1 => anyb x j || hasb x j
theorem anyb_is {x : Nat} (h : x < 256) : anyb x 8 = decide (x ≠ 0) := by
  by_cases e : x = 0
  · subst e; rfl
  · rw [decide_eq_true e]
    have h1 := tzn_lt x e h
    have h2 := tzn_is x e h
    have up : ∀ j k, j < k → hasb x j = true → anyb x k = true := by
      intro j k
      induction k with
      | zero => intro hj; omega
      | succ k ih =>
        intro hj hb
        unfold anyb
        by_cases e2 : j = k
        · subst e2; rw [hb]; simp
        · rw [ih (by omega) hb]; rfl
    exact up _ _ h1 h2
end Go.Proofs.Ytkclbgoagcpckaa
