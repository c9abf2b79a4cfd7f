import Derived.Test.YtmgijchcfjmphaaViewH
import Derived.Laws.Closers25b
namespace Go.Proofs.Ytmgijchcfjmphaa
open Go.RowKit

set_option maxRecDepth 20000 in
theorem view_put (V : Vw) (σ : St) (k : Key) (x : Val) (w : World) (h : VS w V σ) (hx : x.Ok) :
    Calls Try.prog 27 #[V.p, keyV k, .agg x.cells] w fun e w' => e = .returned (.tuple #[]) ∧ VS w' V (σ.put k x) ∧ Fr V.foot w w' := by
  obtain ⟨lr, lw, h⟩ := h
  obtain ⟨a, b⟩ := k
  have HP := Lib.hid (fun w => key_place (a, b) w)
  have FIN : Hid (∀ w1, Fr (fun _ => False) ((w.alloc (.cells #[.int .i64 a, .int .i64 b] 61)).alloc (.cells x.cells 59)) w1 → VB w1 V σ lr lw ∧ Blk w1 (w.heap.size + 1) x.cells 59 ∧ Blk w1 w.heap.size #[.int .i64 a, .int .i64 b] 61 ∧ Fr (fun _ => False) w w1) := fun w1 f => by
    have f0 : Fr (fun _ => False) w ((w.alloc (.cells #[.int .i64 a, .int .i64 b] 61)).alloc (.cells x.cells 59)) := ((Fr.refl _ _).alloc _).alloc _
    exact ⟨h.fr (f0.trans f) (fun _ _ => id), (Blk.at_new (by simp)).fr f id, ((Blk.at_new rfl).alloc _).fr f id, f0.trans f⟩
  have HL := Lib.hid (fun k (hk : V.has k) => h.lt hk)
  have HX := Lib.hid hx
  cases hp : place (a, b) with
  | none =>
    have hz := placeZ_none hp
    rw [hz] at HP
    have HE2 := Lib.hid (show σ.put (a, b) x = σ by unfold St.put; rw [hp])
    clear hp hz h hx
    unfold Vw.p
    go_enter Try.func27, Try.ntmps27
    go_wp2_with fail
    refine (HP.out _).mono ?_
    rintro e w1 ⟨rfl, f1⟩
    obtain ⟨h1, b1, _, g1⟩ := FIN.out w1 f1
    have HF := Lib.hid g1
    have HV := Lib.hid h1
    clear f1 b1 h1 g1
    go_wp2_with fail
    go_end0
    exact ⟨rfl, by rw [HE2.out]; exact ⟨lr, lw, HV.out⟩, HF.out.to _⟩
  | some p =>
    have hz := placeZ_some hp
    rw [hz] at HP
    have hlt : p < 55 := (place_some hp).2.2.2.2.2
    have hp0 : (0 : Int) ≤ p := by omega
    have HPP := Lib.hid hp
    clear hp hz h hx
    unfold Vw.p
    go_enter Try.func27, Try.ntmps27
    go_wp2_with fail
    refine (HP.out _).mono ?_
    rintro e w1 ⟨rfl, f1⟩
    obtain ⟨h1, b1, bk1, g1⟩ := FIN.out w1 f1
    obtain ⟨w2, hr2, m2, f2⟩ := (h1.mw.drew).update key_struct Try.underlying79 (a, b) (.agg x.cells)
    have hr2' : (Instr.mapUpdate 79 (.map (some V.m)) (.agg #[.int .i64 a, .int .i64 b]) (.agg x.cells)).run Try.prog w1.drew = .ok () w2 := hr2
    have v0 := h1.h.cell 0
    have v2 := h1.h.cell 2
    have c0 := bk1.cell 0
    have c1 := bk1.cell 1
    obtain ⟨q0, q1, q2, q3, q4⟩ := b1.facts
    have HF := Lib.hid g1
    have HV := Lib.hid h1
    have HM := Lib.hid m2
    have HF2 := Lib.hid f2
    clear f1 b1 h1 g1 hr2 bk1 m2 f2
    go_wp2_with fail
    go_region
    all_goals (
      go_wp2_with fail
      go_end0
      have F2 : Fr (fun k => k = V.m) w1 w2 := (Fr.refl _ _).drew.trans HF2.out
      refine ⟨rfl, ?_, (HF.out.to _).trans (F2.mono (fun k _ e => .inr e))⟩
      unfold St.put
      rw [HPP.out]
      have hv := HV.out
      refine ⟨_, _, hv.h.fr F2 (fun e => hv.mw.ne hv.h e.symm), hv.s.fr F2 (fun e => hv.mw.ne hv.s.h e.symm) (fun e => hv.s.a.elim fun c hc => hv.mw.ne hc.1 e.symm), hv.mr.fr F2 hv.ne, HM.out, hv.nr, nodup_ins hv.nw _ _,
        hv.vr, fun k hk => (mem_ins.1 hk).elim (fun e => by rw [e, HPP.out]; rfl) (hv.vw k), hv.gr, fun k q hq => ?_, hv.ne, fun q y hq => ?_⟩
      · rw [getA_ins]
        by_cases e : k = (a, b)
        · subst e
          rw [if_pos rfl]
          obtain rfl : p = q := by rw [HPP.out] at hq; exact Option.some.inj hq
          simp only [upd_self, Option.map_some]
        · rw [if_neg e, hv.gw k q hq]
          have hne : q ≠ p := fun e2 => e (place_inj (by rw [hq, HPP.out, e2]) (by rw [hq]; rfl))
          simp only [upd_ne _ _ hne]
      · simp only at hq
        by_cases e : q = p
        · subst e; rw [upd_self] at hq; simp only [Option.some.injEq] at hq; subst hq; exact HX.out
        · rw [upd_ne _ _ e] at hq; exact hv.ok q y hq)

/-- the caller's own blocks: where, what -/
abbrev Own1 := Nat × Array Value × TypeId
def OwnB (w : World) : List Own1 → Prop
  | [] => True
  | e :: l => Blk w e.1 e.2.1 e.2.2 ∧ OwnB w l
/-- b is none of these -/
def NoneOf (b : Nat) : List Own1 → Prop
  | [] => True
  | e :: l => b ≠ e.1 ∧ e.1 ≠ b ∧ NoneOf b l
/-- all stand apart -/
def Apart1 : List Own1 → Prop
  | [] => True
  | e :: l => NoneOf e.1 l ∧ Apart1 l
/-- what the walk may use of them -/
def OwnF (w : World) : List Own1 → Prop
  | [] => True
  | e :: l => (rowAt w e.1 0 e.2.1.size = some e.2.1 ∧ soft w e.1 e.2.1.size = true ∧ (∀ i, w.cell? ⟨e.1, i, none⟩ = e.2.1[i]?) ∧ (∀ i, w.frozen? ⟨e.1, i, none⟩ = false) ∧ e.1 < w.heap.size ∧
      (∀ k, e.1 < w.heap.size + k) ∧ w.heap.size ≠ e.1 ∧ e.1 ≠ w.heap.size ∧ (∀ k, w.heap.size + k ≠ e.1) ∧ (∀ k, e.1 ≠ w.heap.size + k) ∧ NoneOf e.1 l) ∧ OwnF w l
attribute [go_sem] OwnF NoneOf and_true
theorem OwnB.facts {w : World} {l : List Own1} (h : OwnB w l) (ha : Apart1 l) : OwnF w l := by
  induction l with
  | nil => trivial
  | cons e l ih =>
    have hlt := h.1.lt
    exact ⟨⟨h.1.rowAt rfl, h.1.soft rfl, h.1.cell, h.1.frozen, hlt, fun k => by omega, by omega, by omega, fun k => by omega, fun k => by omega, ha.1⟩, ih h.2 ha.2⟩
theorem OwnB.noneOf {w : World} {l : List Own1} (h : OwnB w l) {b : Nat} (hb : w.heap.size ≤ b) : NoneOf b l := by
  induction l with
  | nil => trivial
  | cons e l ih =>
    have hlt := h.1.lt
    exact ⟨by omega, by omega, ih h.2⟩
theorem OwnB.fr {w w' : World} {S : Nat → Prop} {l : List Own1} (h : OwnB w l) (f : Fr S w w') (hs : ∀ e ∈ l, ¬ S e.1) : OwnB w' l := by
  induction l with
  | nil => trivial
  | cons e l ih => exact ⟨h.1.fr f (hs e (List.mem_cons_self ..)), ih h.2 (fun x hx => hs x (List.mem_cons_of_mem _ hx))⟩

/-- the world w goes on from w0 with the view V, which stands for σ, and the own blocks O -/
structure Keeps (V : Vw) (w0 : World) (σ : St) (O : List Own1) (w : World) : Prop where
  vs : VS w V σ
  fr : Fr V.foot w0 w
  lt : ∀ k, V.has k → k < w0.heap.size
  own : OwnB w O
  lo : ∀ e ∈ O, w0.heap.size ≤ e.1
  ap : Apart1 O
theorem VS.keeps {V : Vw} {σ : St} {w : World} (h : VS w V σ) : Keeps V w σ [] w := ⟨h, Fr.refl _ _, fun _ hk => h.lt hk, trivial, fun _ h => by simp at h, trivial⟩
section
variable {V : Vw} {w0 w : World} {σ : St} {O : List Own1} (h : Keeps V w0 σ O w)
include h
theorem Keeps.fr0 {w' : World} (f : Fr (fun _ => False) w w') : Keeps V w0 σ O w' := ⟨h.vs.fr0 f, h.fr.trans (f.to _), h.lt, h.own.fr f (fun _ _ => id), h.lo, h.ap⟩
theorem Keeps.alloc (o : Obj) : Keeps V w0 σ O (w.alloc o) := h.fr0 ((Fr.refl _ _).alloc o)
theorem Keeps.allocB (c : Array Value) (t : TypeId) : Keeps V w0 σ ((w.heap.size, c, t) :: O) (w.alloc (.cells c t)) :=
  have k := h.alloc (.cells c t)
  ⟨k.vs, k.fr, k.lt, ⟨Blk.new w c t, k.own⟩, fun e he => (List.mem_cons.1 he).elim (fun e1 => by rw [e1]; exact h.fr.size) (h.lo e), h.own.noneOf (Nat.le_refl _), h.ap⟩
theorem Keeps.drew : Keeps V w0 σ O w.drew := h.fr0 (Fr.refl _ _).drew
theorem Keeps.drewN (q : Nat) : Keeps V w0 σ O (w.drewN q) := h.fr0 ⟨rfl, rfl, rfl, Nat.le_refl _, fun _ _ _ => rfl⟩
/-- a store into an own block that is named no more -/
theorem Keeps.owned {b : Nat} (hb : w0.heap.size ≤ b) (hO : ∀ e ∈ O, e.1 ≠ b) {w' : World} (f : Fr (fun k => k = b) w w') : Keeps V w0 σ O w' :=
  ⟨h.vs.fr f (fun k hk e => by have := h.lt k hk; omega), h.fr.step f (fun k hk e => by omega), h.lt, h.own.fr f hO, h.lo, h.ap⟩
theorem Keeps.step {S : Nat → Prop} {w' : World} (f : Fr S w w') (hs : ∀ k, S k → w0.heap.size ≤ k) : Keeps V w0 σ [] w' :=
  ⟨h.vs.fr f (fun k hk e => by have := h.lt k hk; have := hs k e; omega), h.fr.step f (fun k hk e => by have := hs k e; omega), h.lt, trivial, fun _ h => by simp at h, trivial⟩
theorem Keeps.none : Keeps V w0 σ [] w := ⟨h.vs, h.fr, h.lt, trivial, fun _ h => by simp at h, trivial⟩
theorem Keeps.setOwn {a : Addr} (hb : w0.heap.size ≤ a.block) (v : Value) : Keeps V w0 σ [] (w.setCell a v) := h.none.owned hb (fun _ h => by simp at h) ((Fr.refl (fun k => k = a.block) w).setCell (fun _ => rfl) v)
theorem Keeps.putOwn {b : Nat} (hb : w0.heap.size ≤ b) (c : Array Value) : Keeps V w0 σ [] (putRow w b c) := h.none.owned hb (fun _ h => by simp at h) (putRow_fr w b c)
theorem Keeps.size : w0.heap.size ≤ w.heap.size := h.fr.size
end
/-- .. behind a call at w -/
structure Kept (V : Vw) (w0 : World) (O : List Own1) (w : World) (σ : St) (w' : World) : Prop where
  k : Keeps V w0 σ O w'
  f : Fr V.foot w w'
theorem Keeps.kept {V : Vw} {w0 w w' : World} {σ σ' : St} {O O' : List Own1} (h : Keeps V w0 σ O w) (k : Keeps V w σ' O' w') : Kept V w0 O w σ' w' :=
  ⟨⟨k.vs, h.fr.trans k.fr, h.lt, h.own.fr k.fr (fun e he hf => by have := h.lo e he; have := h.lt _ (Vw.foot_has hf); omega), h.lo, h.ap⟩, k.fr⟩
/-- what the walk may use of the sizes, and of what is the caller's own -/
theorem Kept.facts {V : Vw} {w0 w w' : World} {σ : St} {O : List Own1} (h : Kept V w0 O w σ w') : w0.heap.size ≤ w'.heap.size ∧ OwnF w' O := ⟨h.k.fr.size, h.k.own.facts h.k.ap⟩
theorem alloc_size (w : World) (o : Obj) : (w.alloc o).heap.size = w.heap.size + 1 := by simp
theorem drew_size (w : World) : w.drew.heap.size = w.heap.size := rfl
theorem drewN_size (w : World) (q : Nat) : (w.drewN q).heap.size = w.heap.size := rfl

/-- what a call comes to: a value, and the view's next state -/
def Ret (V : Vw) (w0 : World) (O : List Own1) (w : World) (v : Value) (σ : St) (e : Ending) (w' : World) : Prop := e = .returned v ∧ Kept V w0 O w σ w'
abbrev clockK : Key := (1, 0)
abbrev poolK : Key := (2, 0)
abbrev procsK : Key := (3, 0)
abbrev procK (p : Int) : Key := (4, p)
abbrev filesK : Key := (5, 0)
abbrev fileK (f : Int) : Key := (6, f)
abbrev pipesK : Key := (7, 0)
abbrev pipeK (q : Int) : Key := (8, q)
abbrev inodesK : Key := (9, 0)
abbrev inodeK (i : Int) : Key := (10, i)
abbrev consK : Key := (11, 0)
abbrev memK (p : Int) : Key := (12, p)
/-- a bit set; a bit taken away -/
abbrev setBit (n p : Int) : Int := bits BinOp.or IntKind.i64 n (wrap64 (2 ^ p.toNat))
abbrev clrBit (n p : Int) : Int := bits BinOp.andNot IntKind.i64 n (wrap64 (2 ^ p.toNat))
theorem bits_in (op : BinOp) (a b : Int) : In64 (bits op .i64 a b) := ⟨bits_lo_i64 op a b, bits_hi_i64 op a b⟩
theorem wrap_in (a : Int) : In64 (wrap64 a) := by unfold In64 wrap64; omega
theorem Val.Ok.set {x : Val} (h : x.Ok) (i : Nat) {v : Int} (hv : In64 v) : (x.set i v).Ok := ⟨fun j => by
  rw [Val.set_n]
  split
  · exact hv
  · exact h.n j, h.s⟩
theorem Val.Ok.str {x : Val} (h : x.Ok) {s : ByteArray} (hs : s.size ≤ 1000000000) : (x.str s).Ok := ⟨h.n, hs⟩
theorem Val.ofS_ok {s : ByteArray} (hs : s.size ≤ 1000000000) : (Val.ofS s).Ok := ⟨fun _ => by unfold Val.ofS In64; simp, hs⟩
theorem VS.size {w : World} {V : Vw} {σ : St} (h : VS w V σ) (k : Key) : (σ.get k).s.size ≤ 1000000000 := (h.ok k).s
theorem St.get_got (σ : St) (k q : Key) : (σ.got k).get q = σ.get q := by unfold St.got St.get; cases place k <;> rfl
/-- a bit of a number -/
abbrev bit (n p : Int) : Int := bits BinOp.and IntKind.i64 (n / 2 ^ p.toNat) 1
theorem bit_eq {n c : Int} {k : Nat} (h : (bits BinOp.and IntKind.i64 (n / 2 ^ k) 1 == c) = true) : bit n k = c := eq_of_beq h
theorem bit_ne {n c : Int} {k : Nat} (h : (bits BinOp.and IntKind.i64 (n / 2 ^ k) 1 == c) = false) : ¬ bit n k = c := fun e => by
  rw [show bits BinOp.and IntKind.i64 (n / 2 ^ k) 1 = c from e] at h
  simp at h
theorem or_late {p : Prop} {x : Int} (h : ¬ p) (k : p ∨ (x == 0) = true) : x = 0 := k.elim (fun k => (h k).elim) eq_of_beq
theorem keyed {P : Program} {g : FuncId} {args : Array Value} {v : Value} {V : Vw} {σ : St} {w0 w : World} {O : List Own1} (c : Calls P g args w fun e w' => e = .returned v ∧ Fr (fun _ => False) w w') (h : Keeps V w0 σ O w) :
    Calls P g args w (Ret V w0 O w v σ) := c.mono fun _ _ ⟨he, f⟩ => ⟨he, h.fr0 f, f.to _⟩
theorem get_ok {V : Vw} {σ : St} {w0 w : World} {O : List Own1} (k : Key) (h : Keeps V w0 σ O w) :
    Calls Try.prog 24 #[V.p, keyV k] w (Ret V w0 O w (.agg (σ.get k).cells) (σ.got k)) :=
  (view_get V σ k w h.vs).mono fun _ _ ⟨he, hv, f⟩ => ⟨he, h.kept (O' := []) ⟨hv, f, fun _ hk => h.vs.lt hk, trivial, fun _ h => by simp at h, trivial⟩⟩
theorem put_ok {V : Vw} {σ : St} {w0 w : World} {O : List Own1} (k : Key) (x : Val) (hx : x.Ok) (h : Keeps V w0 σ O w) :
    Calls Try.prog 27 #[V.p, keyV k, .agg x.cells] w (Ret V w0 O w (.tuple #[]) (σ.put k x)) :=
  (view_put V σ k x w h.vs hx).mono fun _ _ ⟨he, hv, f⟩ => ⟨he, h.kept (O' := []) ⟨hv, f, fun _ hk => h.vs.lt hk, trivial, fun _ h => by simp at h, trivial⟩⟩

theorem store_new (w : World) : Calls Try.prog 29 #[] w fun e w' => ∃ s g, e = .returned (.pointer (some ⟨s, 0, none⟩)) ∧ StB w' s g (fun _ => Val.zero) ∧ Fr (fun _ => False) w w' ∧ w.heap.size ≤ s ∧ w.heap.size ≤ g := by
  have HA := Lib.hid (fun w => key_all w)
  have hinf : (Try.prog.info? 59).map (fun i => (i.zero, i.size, i.bytes)) = some (some Val.zero.v, 17, 144) := by kernel_rfl
  have hmk := madek Try.prog 82 59 Val.zero.v 17 144 Try.underlying82 hinf 55 (by omega) (by omega)
  have hmk' : ∀ w, (Instr.makeSlice 82 (.int .i64 55) (.int .i64 55)).run Try.prog w = .ok (.slice (some ⟨w.heap.size, 0, none⟩) 55 55) (w.alloc (.cells (madeCells Val.zero.cells (55 * 17)) 59)) := hmk
  clear hmk
  go_enter Try.func29, Try.ntmps29
  go_wp2_with (go_at_call 40; refine (HA.out _).mono ?_; rintro e w' ⟨rfl, rfl⟩)
  go_ret
  refine ⟨_, _, rfl, ⟨Blk.at_new (by simp), ?_, fun _ => Val.zero_ok⟩, ((Fr.refl _ _).alloc _).alloc _, by simp, Nat.le_refl _⟩
  refine ((Rec.at_new (w := w) Val.zero.cells 55 17 (Val.cells_size _) rfl).alloc _).congr (fun i j hi hj => ?_)
  rw [getElem!_pos _ _ (by rw [Val.cells_size]; exact hj)]
  have := Val.cells_cell Val.zero j hj
  rw [Array.getElem?_eq_getElem (by rw [Val.cells_size]; exact hj)] at this
  exact Option.some.inj this

def St.of (st : Nat → Val) : St := ⟨st, fun _ => false, fun _ => none⟩
theorem store_look (s g : Nat) (st : Nat → Val) (w : World) (h : StB w s g st) : Calls Try.prog 42 #[.pointer (some ⟨s, 0, none⟩)] w fun e w' => ∃ V : Vw, e = .returned V.p ∧ V.s = s ∧ V.g = g ∧ VS w' V (.of st) ∧ Fr (fun _ => False) w w' ∧ w.heap.size ≤ V.v ∧ w.heap.size ≤ V.r ∧ w.heap.size ≤ V.m := by
  have hmm := fun t w => run_makeMap (P := Try.prog) t w
  have HH := Lib.hid h
  clear h
  go_enter Try.func42, Try.ntmps42
  go_wp2_with fail
  go_ret
  have f : Fr (fun _ => False) w (((w.alloc (.map #[] 0)).alloc (.map #[] 0)).alloc (.cells #[.pointer (some ⟨s, 0, none⟩), .map (some w.heap.size), .map (some (w.heap.size + 1))] 81)) := (((Fr.refl _ _).alloc _).alloc _).alloc _
  exact ⟨⟨w.heap.size + 2, s, g, w.heap.size, w.heap.size + 1⟩, rfl, rfl, rfl, ⟨[], [], Blk.at_new (by simp), HH.out.fr f id id, ((MapB.new _ _ rfl).alloc _).alloc _, (MapB.new _ _ (by simp)).alloc _, by simp [keysA], by simp [keysA], by simp [keysA], by simp [keysA], fun k p _ => rfl, fun k p _ => rfl, by simp, fun p x h => by simp [St.of] at h⟩, f, by simp, by simp, by simp⟩
end Go.Proofs.Ytmgijchcfjmphaa
