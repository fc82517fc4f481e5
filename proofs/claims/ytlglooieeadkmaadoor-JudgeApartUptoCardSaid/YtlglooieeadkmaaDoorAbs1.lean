/- The state of a walk: what is live, what the world has kept; what each step of memory does to it. No program text. -/
import Derived.Test.YtlglooieeadkmaaDoorAbs0
import Derived.Laws.AppendOwn
set_option linter.unusedVariables false
namespace Go.Abs
open Go Go.RowKit

/-- The program, what its package-level variables hold, and how many blocks lie at the bottom. -/
structure Sys where
  P : Program
  G : World → Prop
  gt : Nat
  mono : ∀ w w' : World, (∀ b, b < gt → w'.heap[b]? = w.heap[b]?) → w.heap.size ≤ w'.heap.size → G w → G w'

/-- Where a body begins: the world, the blocks that may be read, those that may be written. -/
structure Origin where
  w : World
  ok : Nat → Prop
  E : Nat → Prop

structure OWf (S : Sys) (O : Origin) : Prop where
  glob : S.G O.w
  gt : S.gt ≤ O.w.heap.size
  E : ∀ b, O.E b → S.gt ≤ b
  ok : ∀ b, O.ok b → b < O.w.heap.size ∧ ¬ O.E b

/-- The blocks that hold what is only read. -/
def okA (O : Origin) (w : World) (H : Heap) (α : Nat → Option Nat) (b : Nat) : Prop :=
  (O.ok b ∨ (O.w.heap.size ≤ b ∧ b < w.heap.size)) ∧ ∀ d, (H d).live = true → α d ≠ some b

def RelObj (w : World) (ok : Nat → Prop) (H : Heap) (α : Nat → Option Nat) (d : Nat) : Prop :=
  match α d with
  | none => (H d).cs = []
  | some b => ∃ cells : Array Value, w.heap[b]? = some (Obj.cells cells (H d).t (0, 0)) ∧ (H d).cs.length ≤ cells.size ∧
      ∀ (j : Nat) (x : AV) (v : Value), (H d).cs[j]? = some x → cells[j]? = some v → Conc w ok H α x v

structure Base (O : Origin) (H : Heap) (α : Nat → Option Nat) (w : World) : Prop where
  os : w.os = O.w.os
  tape : w.tape = O.w.tape
  output : w.output = O.w.output
  size : O.w.heap.size ≤ w.heap.size
  block : ∀ b, b < O.w.heap.size → ¬ O.E b → w.heap[b]? = O.w.heap[b]?
  obj : ∀ d, (H d).live = true → RelObj w (okA O w H α) H α d
  inj : ∀ d d' b, (H d).live = true → (H d').live = true → α d = some b → α d' = some b → d = d'
  new : ∀ d b, (H d).live = true → α d = some b → O.w.heap.size ≤ b ∨ O.E b

def LaterS (O : Origin) (H : Heap) (α : Nat → Option Nat) (w : World) (H' : Heap) (α' : Nat → Option Nat) (w' : World) : Prop :=
  Later w (okA O w H α) H α w' (okA O w' H' α') H' α'

theorem Base.lt {O : Origin} {H : Heap} {α : Nat → Option Nat} {w : World} (h : Base O H α w) {d b : Nat} (hl : (H d).live = true) (ha : α d = some b) : b < w.heap.size := by
  have := h.obj d hl
  unfold RelObj at this
  rw [ha] at this
  obtain ⟨cells, h1, _⟩ := this
  exact (Array.getElem?_eq_some_iff.1 h1).1

theorem okA_lt {S : Sys} {O : Origin} (hO : OWf S O) {H : Heap} {α : Nat → Option Nat} {w : World} (hs : O.w.heap.size ≤ w.heap.size) {b : Nat} (h : okA O w H α b) : b < w.heap.size := by
  rcases h.1 with h | h
  · have := (hO.ok b h).1; omega
  · exact h.2

theorem Base.glob {S : Sys} {O : Origin} (hO : OWf S O) {H : Heap} {α : Nat → Option Nat} {w : World} (h : Base O H α w) : S.G w :=
  S.mono O.w w (fun b hb => h.block b (by have := hO.gt; omega) (fun hE => by have := hO.E b hE; omega)) h.size hO.glob

theorem Base.gtle {S : Sys} {O : Origin} (hO : OWf S O) {H : Heap} {α : Nat → Option Nat} {w : World} (h : Base O H α w) : S.gt ≤ w.heap.size :=
  Nat.le_trans hO.gt h.size

theorem relObj_keep {O : Origin} {H H' : Heap} {α α' : Nat → Option Nat} {w w' : World} {d : Nat} (h : RelObj w (okA O w H α) H α d) (L : LaterS O H α w H' α' w') (eH : H' d = H d) (ea : α' d = α d)
    (hb : ∀ b, α d = some b → w'.heap[b]? = w.heap[b]?) : RelObj w' (okA O w' H' α') H' α' d := by
  unfold RelObj at *
  rw [ea, eH]
  cases ha : α d with
  | none => rw [ha] at h; exact h
  | some b =>
    rw [ha] at h
    obtain ⟨cells, h1, h2, h3⟩ := h
    exact ⟨cells, (hb b ha).trans h1, h2, fun j x v hx hv => (h3 j x v hx hv).later L⟩

theorem setRow_get (w : World) (b : Nat) (c : Array Value) (t : TypeId) (fr : Nat × Nat) (h : w.heap[b]? = some (Obj.cells c t fr)) (c' : Array Value) : (w.setRow b c').heap[b]? = some (Obj.cells c' t fr) := setRow_heap w b c c' t fr h

/-- The world after a draw. -/
theorem Base.drewN {O : Origin} {H : Heap} {α : Nat → Option Nat} {w : World} (h : Base O H α w) (n : Nat) : Base O H α (w.drewN n) ∧ LaterS O H α w H α (w.drewN n) := by
  have hok : okA O (w.drewN n) H α = okA O w H α := rfl
  have L : LaterS O H α w H α (w.drewN n) := ⟨fun _ _ => rfl, fun _ h => h, fun b c t fr h => ⟨c, h, rfl⟩, fun _ => Nat.le_refl _, fun _ _ h => ⟨h, rfl, Nat.le_refl _⟩⟩
  exact ⟨⟨h.os, h.tape, h.output, h.size, h.block, fun d hd => relObj_keep (h.obj d hd) L rfl rfl (fun _ _ => rfl), h.inj, h.new⟩, L⟩

def upd {β : Type} (f : Nat → β) (d : Nat) (x : β) : Nat → β := fun j => if j = d then x else f j
@[simp] theorem upd_same {β : Type} (f : Nat → β) (d : Nat) (x : β) : upd f d x d = x := by simp [upd]
theorem upd_ne {β : Type} (f : Nat → β) (d : Nat) (x : β) {j : Nat} (h : j ≠ d) : upd f d x j = f j := by simp [upd, h]

theorem getElem?_alloc_old (w : World) (o : Obj) (b : Nat) (h : b < w.heap.size) : (w.alloc o).heap[b]? = w.heap[b]? := Below.heap_alloc w o b h

/-- A new object at a place d: what lay there is given up. -/
theorem Base.alloc {S : Sys} {O : Origin} (hO : OWf S O) {H : Heap} {α : Nat → Option Nat} {w : World} (h : Base O H α w) (d : Nat) (cs : List AV) (vs : Array Value) (t : TypeId)
    (hl : cs.length ≤ vs.size) (hc : ∀ (j : Nat) (x : AV) (v : Value), cs[j]? = some x → vs[j]? = some v → Conc w (okA O w H α) H α x v) :
    Base O (upd H d ⟨(H d).ver + 1, true, cs, t⟩) (upd α d (some w.heap.size)) (w.alloc (Obj.cells vs t)) ∧
    LaterS O H α w (upd H d ⟨(H d).ver + 1, true, cs, t⟩) (upd α d (some w.heap.size)) (w.alloc (Obj.cells vs t)) := by
  have L : LaterS O H α w (upd H d ⟨(H d).ver + 1, true, cs, t⟩) (upd α d (some w.heap.size)) (w.alloc (Obj.cells vs t)) := by
    refine ⟨fun b hb => getElem?_alloc_old w _ b (okA_lt hO h.size hb), fun b hb => ⟨?_, fun d' hd' => ?_⟩, fun b c t' fr hb => ⟨c, ?_, rfl⟩, fun d' => ?_, fun d' e l => ?_⟩
    · rcases hb.1 with h1 | h1
      · exact .inl h1
      · exact .inr ⟨h1.1, by simp; omega⟩
    · by_cases e : d' = d
      · subst e
        simp only [upd_same, ne_eq, Option.some.injEq]
        have := okA_lt hO h.size hb
        omega
      · rw [upd_ne _ _ _ e] at hd' ⊢
        exact hb.2 d' hd'
    · rw [getElem?_alloc_old w _ b (Array.getElem?_eq_some_iff.1 hb).1]; exact hb
    · by_cases e : d' = d
      · subst e; simp
      · rw [upd_ne _ _ _ e]; exact Nat.le_refl _
    · by_cases e' : d' = d
      · subst e'; simp at e
      · rw [upd_ne _ _ _ e'] at l ⊢; exact ⟨l, rfl, by rw [upd_ne _ _ _ e']; exact Nat.le_refl _⟩
  refine ⟨⟨h.os, h.tape, h.output, by simp; have := h.size; omega, fun b hb hE => ?_, fun d' hd' => ?_, fun d1 d2 b l1 l2 e1 e2 => ?_, fun d' b l e => ?_⟩, L⟩
  · rw [getElem?_alloc_old w _ b (by have := h.size; omega)]; exact h.block b hb hE
  · by_cases e : d' = d
    · subst e
      unfold RelObj
      simp only [upd_same]
      exact ⟨vs, heap_alloc_new w _, hl, fun j x v hx hv => (hc j x v hx hv).later L⟩
    · have hd0 := hd'
      rw [upd_ne _ _ _ e] at hd0
      refine relObj_keep (h.obj d' hd0) L (upd_ne _ _ _ e) (upd_ne _ _ _ e) fun b hb => getElem?_alloc_old w _ b (h.lt hd0 hb)
  · by_cases a1 : d1 = d <;> by_cases a2 : d2 = d
    · rw [a1, a2]
    · subst a1
      rw [upd_ne _ _ _ a2] at l2 e2
      simp only [upd_same, Option.some.injEq] at e1
      have := h.lt l2 e2
      omega
    · subst a2
      rw [upd_ne _ _ _ a1] at l1 e1
      simp only [upd_same, Option.some.injEq] at e2
      have := h.lt l1 e1
      omega
    · rw [upd_ne _ _ _ a1] at l1 e1
      rw [upd_ne _ _ _ a2] at l2 e2
      exact h.inj d1 d2 b l1 l2 e1 e2
  · by_cases a1 : d' = d
    · subst a1
      simp only [upd_same, Option.some.injEq] at e
      left
      have := h.size
      omega
    · rw [upd_ne _ _ _ a1] at l e
      exact h.new d' b l e

/-- An object given up. -/
theorem Base.kill {O : Origin} {H : Heap} {α : Nat → Option Nat} {w : World} (h : Base O H α w) (d : Nat) (hE : ∀ b, α d = some b → (H d).live = true → O.w.heap.size ≤ b) :
    Base O (upd H d ⟨(H d).ver + 1, false, [], 0⟩) α w ∧ LaterS O H α w (upd H d ⟨(H d).ver + 1, false, [], 0⟩) α w := by
  have hlive : ∀ d', ((upd H d ⟨(H d).ver + 1, false, [], 0⟩) d').live = true → d' ≠ d ∧ (H d').live = true := fun d' l => by
    by_cases e : d' = d
    · subst e; simp at l
    · rw [upd_ne _ _ _ e] at l; exact ⟨e, l⟩
  have L : LaterS O H α w (upd H d ⟨(H d).ver + 1, false, [], 0⟩) α w := by
    refine ⟨fun _ _ => rfl, fun b hb => ⟨hb.1, fun d' hd' => hb.2 d' (hlive d' hd').2⟩, fun b c t fr hb => ⟨c, hb, rfl⟩, fun d' => ?_, fun d' e l => ⟨(hlive d' l).2, rfl, by rw [upd_ne _ _ _ (hlive d' l).1]; exact Nat.le_refl _⟩⟩
    by_cases e : d' = d
    · subst e; simp
    · rw [upd_ne _ _ _ e]; exact Nat.le_refl _
  exact ⟨⟨h.os, h.tape, h.output, h.size, h.block, fun d' hd' => relObj_keep (h.obj d' (hlive d' hd').2) L (upd_ne _ _ _ (hlive d' hd').1) rfl (fun _ _ => rfl),
    fun d1 d2 b l1 l2 => h.inj d1 d2 b (hlive d1 l1).2 (hlive d2 l2).2, fun d' b l => h.new d' b (hlive d' l).2⟩, L⟩

/-- A row that has no block yet: the nil slice, to be appended to. -/
theorem Base.virtual {O : Origin} {H : Heap} {α : Nat → Option Nat} {w : World} (h : Base O H α w) (d : Nat) (t : TypeId) :
    Base O (upd H d ⟨(H d).ver + 1, true, [], t⟩) (upd α d none) w ∧ LaterS O H α w (upd H d ⟨(H d).ver + 1, true, [], t⟩) (upd α d none) w := by
  have L : LaterS O H α w (upd H d ⟨(H d).ver + 1, true, [], t⟩) (upd α d none) w := by
    refine ⟨fun _ _ => rfl, fun b hb => ⟨hb.1, fun d' hd' => ?_⟩, fun b c t fr hb => ⟨c, hb, rfl⟩, fun d' => ?_, fun d' e l => ?_⟩
    · by_cases e : d' = d
      · subst e; simp
      · rw [upd_ne _ _ _ e] at hd' ⊢; exact hb.2 d' hd'
    · by_cases e : d' = d
      · subst e; simp
      · rw [upd_ne _ _ _ e]; exact Nat.le_refl _
    · by_cases e' : d' = d
      · subst e'; simp at e
      · rw [upd_ne _ _ _ e'] at l ⊢; exact ⟨l, rfl, by rw [upd_ne _ _ _ e']; exact Nat.le_refl _⟩
  refine ⟨⟨h.os, h.tape, h.output, h.size, h.block, fun d' hd' => ?_, fun d1 d2 b l1 l2 e1 e2 => ?_, fun d' b l e => ?_⟩, L⟩
  · by_cases e : d' = d
    · subst e; unfold RelObj; simp
    · have hd0 := hd'
      rw [upd_ne _ _ _ e] at hd0
      exact relObj_keep (h.obj d' hd0) L (upd_ne _ _ _ e) (upd_ne _ _ _ e) (fun _ _ => rfl)
  · by_cases a1 : d1 = d
    · subst a1; simp at e1
    · by_cases a2 : d2 = d
      · subst a2; simp at e2
      · rw [upd_ne _ _ _ a1] at l1 e1
        rw [upd_ne _ _ _ a2] at l2 e2
        exact h.inj d1 d2 b l1 l2 e1 e2
  · by_cases a1 : d' = d
    · subst a1; simp at e
    · rw [upd_ne _ _ _ a1] at l e
      exact h.new d' b l e

/-- A live object's cells are written. -/
theorem Base.write {S : Sys} {O : Origin} (hO : OWf S O) {H : Heap} {α : Nat → Option Nat} {w : World} (h : Base O H α w) (d b : Nat) (hl : (H d).live = true) (ha : α d = some b) (cells cells' : Array Value)
    (hg : w.heap[b]? = some (Obj.cells cells (H d).t (0, 0))) (hsz : cells'.size = cells.size) (k : Bool) (cs : List AV) (hlen : cs.length ≤ cells'.size) (hlk : k = false → cs.length ≤ (H d).cs.length)
    (hc : ∀ (j : Nat) (x : AV) (v : Value), cs[j]? = some x → cells'[j]? = some v → Conc w (okA O w H α) H α x v) :
    Base O (upd H d ⟨(H d).ver + k.toNat, true, cs, (H d).t⟩) α (w.setRow b cells') ∧ LaterS O H α w (upd H d ⟨(H d).ver + k.toNat, true, cs, (H d).t⟩) α (w.setRow b cells') := by
  have hlive : ∀ d', ((upd H d ⟨(H d).ver + k.toNat, true, cs, (H d).t⟩) d').live = true → (H d').live = true := fun d' l => by
    by_cases e : d' = d
    · subst e; exact hl
    · rwa [upd_ne _ _ _ e] at l
  have hlive' : ∀ d', (H d').live = true → ((upd H d ⟨(H d).ver + k.toNat, true, cs, (H d).t⟩) d').live = true := fun d' l => by
    by_cases e : d' = d
    · subst e; simp
    · rwa [upd_ne _ _ _ e]
  have hother : ∀ c, c ≠ b → (w.setRow b cells').heap[c]? = w.heap[c]? := fun c hc => setRow_other w b c _ hc
  have L : LaterS O H α w (upd H d ⟨(H d).ver + k.toNat, true, cs, (H d).t⟩) α (w.setRow b cells') := by
    refine ⟨fun c hc => hother c fun e => hc.2 d hl (e ▸ ha), fun c hc => ⟨?_, fun d' hd' => hc.2 d' (hlive d' hd')⟩, fun c cc t fr hcc => ?_, fun d' => ?_, fun d' e l => ⟨hlive d' l, rfl, ?_⟩⟩
    · rcases hc.1 with h1 | h1
      · exact .inl h1
      · exact .inr ⟨h1.1, by simpa using h1.2⟩
    · by_cases e : c = b
      · subst e
        rw [hg] at hcc
        injection hcc with hcc
        injection hcc with e1 e2 e3
        subst e1 e2 e3
        exact ⟨cells', setRow_heap w c cells cells' _ _ hg, hsz⟩
      · exact ⟨cc, (hother c e).trans hcc, rfl⟩
    · by_cases e : d' = d
      · subst e; simp
      · rw [upd_ne _ _ _ e]; exact Nat.le_refl _
    · by_cases e' : d' = d
      · subst e'
        simp only [upd_same] at e ⊢
        exact hlk (by cases k <;> simp_all)
      · rw [upd_ne _ _ _ e']; exact Nat.le_refl _
  refine ⟨⟨h.os, h.tape, h.output, by simpa using h.size, fun c hc hE => ?_, fun d' hd' => ?_, fun d1 d2 c l1 l2 => h.inj d1 d2 c (hlive d1 l1) (hlive d2 l2), fun d' c l => h.new d' c (hlive d' l)⟩, L⟩
  · have hne : c ≠ b := fun e => by
      subst e
      rcases h.new d c hl ha with h1 | h1
      · omega
      · exact hE h1
    rw [hother c hne]
    exact h.block c hc hE
  · by_cases e : d' = d
    · subst e
      unfold RelObj
      rw [ha]
      simp only [upd_same]
      exact ⟨cells', setRow_heap w b cells cells' _ _ hg, hlen, fun j x v hx hv => (hc j x v hx hv).later L⟩
    · refine relObj_keep (h.obj d' (hlive d' hd')) L (upd_ne _ _ _ e) rfl fun c hc => hother c fun e' => e (h.inj d' d b (hlive d' hd') hl (e' ▸ hc) ha)

end Go.Abs
