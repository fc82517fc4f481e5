/- Abstract values for walks: what a value reads as, apart from where it lies in memory. No program text. -/
import Derived.Below
import Derived.LoopN
import Derived.Tactics
import Derived.Deep.Draws
set_option linter.unusedVariables false
namespace Go.Abs
open Go Go.RowKit

inductive AV where
  | v (x : Value)
  | ro (l : List (List AV))
  | rd (cs : List AV)
  | own (o ver off n sz : Nat)
  | ptr (o ver off : Nat)
  | agg (cs : List AV)
  | tuple (vs : List AV)
  | fn (f : Nat) (caps : List AV)
  | iface (t : Nat) (x : AV)
  | bot
  deriving Inhabited

structure AObj where
  ver : Nat
  live : Bool
  cs : List AV
  t : TypeId

abbrev Heap := Nat → AObj
abbrev Env := Nat → AV
def H0 : Heap := fun _ => ⟨0, false, [], 0⟩

/-- A value that is read, whatever else is written. -/
inductive ConcD (w : World) (ok : Nat → Prop) : AV → Value → Prop
  | v (x : Value) : ConcD w ok (.v x) x
  | ro0 (a : Option Addr) (c : Nat) (ha : ∀ x, a = some x → x.spot = none) : ConcD w ok (.ro []) (.slice a 0 c)
  | ro (l : List (List AV)) (b off c sz : Nat) (vals : Nat → Nat → Value) (hl : l.length ≤ c) (hok : ok b) (hsz : ∀ cs ∈ l, cs.length = sz)
      (hc : ∀ (i : Nat) (cs : List AV) (j : Nat) (x : AV), l[i]? = some cs → cs[j]? = some x → w.cell? ⟨b, off + (i * sz + j), none⟩ = some (vals i j))
      (hr : ∀ (i : Nat) (cs : List AV) (j : Nat) (x : AV), l[i]? = some cs → cs[j]? = some x → ConcD w ok x (vals i j)) : ConcD w ok (.ro l) (.slice (some ⟨b, off, none⟩) l.length c)
  | rd (cs : List AV) (b off : Nat) (vals : Nat → Value) (hok : ok b)
      (hc : ∀ (j : Nat) (x : AV), cs[j]? = some x → w.cell? ⟨b, off + j, none⟩ = some (vals j)) (hr : ∀ (j : Nat) (x : AV), cs[j]? = some x → ConcD w ok x (vals j)) :
      ConcD w ok (.rd cs) (.pointer (some ⟨b, off, none⟩))
  | agg (cs : List AV) (vs : Array Value) (hl : cs.length = vs.size) (hr : ∀ (j : Nat) (x : AV) (v : Value), cs[j]? = some x → vs[j]? = some v → ConcD w ok x v) : ConcD w ok (.agg cs) (.agg vs)
  | tuple (cs : List AV) (vs : Array Value) (hl : cs.length = vs.size) (hr : ∀ (j : Nat) (x : AV) (v : Value), cs[j]? = some x → vs[j]? = some v → ConcD w ok x v) : ConcD w ok (.tuple cs) (.tuple vs)
  | fn (f : Nat) (cs : List AV) (vs : Array Value) (hl : cs.length = vs.size) (hr : ∀ (j : Nat) (x : AV) (v : Value), cs[j]? = some x → vs[j]? = some v → ConcD w ok x v) : ConcD w ok (.fn f cs) (.func (.func f) #[] vs)
  | iface (t : Nat) (x : AV) (v : Value) (h : ConcD w ok x v) : ConcD w ok (.iface t x) (.iface t v)
  | bot (v : Value) : ConcD w ok .bot v

theorem cell?_mono {w w' : World} {ok : Nat → Prop} (hb : ∀ b, ok b → w'.heap[b]? = w.heap[b]?) {b : Nat} (h : ok b) (o : Nat) : w'.cell? ⟨b, o, none⟩ = w.cell? ⟨b, o, none⟩ :=
  World.cell?_of_block (hb b h)

theorem ConcD.mono {w w' : World} {ok ok' : Nat → Prop} {x : AV} {v : Value} (h : ConcD w ok x v) (hb : ∀ b, ok b → w'.heap[b]? = w.heap[b]?) (hk : ∀ b, ok b → ok' b) : ConcD w' ok' x v := by
  induction h with
  | v x => exact .v x
  | ro0 a c ha => exact .ro0 a c ha
  | ro l b off c sz vals hl hok hsz hc hr ih => exact .ro l b off c sz vals hl (hk _ hok) hsz (fun i cs j x h1 h2 => (cell?_mono hb hok _).trans (hc i cs j x h1 h2)) ih
  | rd cs b off vals hok hc hr ih => exact .rd cs b off vals (hk _ hok) (fun j x h => (cell?_mono hb hok _).trans (hc j x h)) ih
  | agg cs vs hl hr ih => exact .agg cs vs hl ih
  | tuple cs vs hl hr ih => exact .tuple cs vs hl ih
  | fn f cs vs hl hr ih => exact .fn f cs vs hl ih
  | iface t x v h ih => exact .iface t x v ih
  | bot v => exact .bot v

/-- Where an owned slice lies. -/
def OwnV (w : World) (A : Option Nat) (off n sz L : Nat) (v : Value) : Prop :=
  match A with
  | none => n = 0 ∧ off = 0 ∧ v = .slice none 0 0
  | some b => ∃ c, n ≤ c ∧ v = .slice (some ⟨b, off, none⟩) n c ∧ L ≤ off + c * sz ∧ ∃ (cells : Array Value) (t : TypeId) (fr : Nat × Nat), w.heap[b]? = some (Obj.cells cells t fr) ∧ off + c * sz ≤ cells.size

inductive Conc (w : World) (ok : Nat → Prop) (H : Heap) (α : Nat → Option Nat) : AV → Value → Prop
  | d (x : AV) (v : Value) (h : ConcD w ok x v) : Conc w ok H α x v
  | agg (cs : List AV) (vs : Array Value) (hl : cs.length = vs.size) (hr : ∀ (j : Nat) (x : AV) (v : Value), cs[j]? = some x → vs[j]? = some v → Conc w ok H α x v) : Conc w ok H α (.agg cs) (.agg vs)
  | tuple (cs : List AV) (vs : Array Value) (hl : cs.length = vs.size) (hr : ∀ (j : Nat) (x : AV) (v : Value), cs[j]? = some x → vs[j]? = some v → Conc w ok H α x v) : Conc w ok H α (.tuple cs) (.tuple vs)
  | fn (f : Nat) (cs : List AV) (vs : Array Value) (hl : cs.length = vs.size) (hr : ∀ (j : Nat) (x : AV) (v : Value), cs[j]? = some x → vs[j]? = some v → Conc w ok H α x v) : Conc w ok H α (.fn f cs) (.func (.func f) #[] vs)
  | iface (t : Nat) (x : AV) (v : Value) (h : Conc w ok H α x v) : Conc w ok H α (.iface t x) (.iface t v)
  | own (o ver off n sz : Nat) (v : Value) (hle : ver ≤ (H o).ver) (h : ver = (H o).ver → (H o).live = true → OwnV w (α o) off n sz (H o).cs.length v) : Conc w ok H α (.own o ver off n sz) v
  | ptr (o ver off : Nat) (v : Value) (hle : ver ≤ (H o).ver) (h : ver = (H o).ver → (H o).live = true → ∃ b, α o = some b ∧ v = .pointer (some ⟨b, off, none⟩)) : Conc w ok H α (.ptr o ver off) v

/-- From one state to a later one. -/
structure Later (w : World) (ok : Nat → Prop) (H : Heap) (α : Nat → Option Nat) (w' : World) (ok' : Nat → Prop) (H' : Heap) (α' : Nat → Option Nat) : Prop where
  same : ∀ b, ok b → w'.heap[b]? = w.heap[b]?
  ok : ∀ b, ok b → ok' b
  kept : ∀ (b : Nat) (c : Array Value) (t : TypeId) (fr : Nat × Nat), w.heap[b]? = some (Obj.cells c t fr) → ∃ c' : Array Value, w'.heap[b]? = some (Obj.cells c' t fr) ∧ c'.size = c.size
  ver : ∀ d, (H d).ver ≤ (H' d).ver
  old : ∀ d, (H' d).ver = (H d).ver → (H' d).live = true → (H d).live = true ∧ α' d = α d ∧ (H' d).cs.length ≤ (H d).cs.length

theorem Later.refl (w : World) (ok : Nat → Prop) (H : Heap) (α : Nat → Option Nat) : Later w ok H α w ok H α :=
  ⟨fun _ _ => rfl, fun _ h => h, fun b c t fr h => ⟨c, h, rfl⟩, fun _ => Nat.le_refl _, fun _ _ h => ⟨h, rfl, Nat.le_refl _⟩⟩

theorem Later.trans {w1 w2 w3 : World} {k1 k2 k3 : Nat → Prop} {A B C : Heap} {α β γ : Nat → Option Nat} (h : Later w1 k1 A α w2 k2 B β) (g : Later w2 k2 B β w3 k3 C γ) : Later w1 k1 A α w3 k3 C γ := by
  refine ⟨fun b hb => (g.same b (h.ok b hb)).trans (h.same b hb), fun b hb => g.ok b (h.ok b hb), fun b c t fr hb => ?_, fun d => Nat.le_trans (h.ver d) (g.ver d), fun d e l => ?_⟩
  · obtain ⟨c', h1, h2⟩ := h.kept b c t fr hb
    obtain ⟨c2, h3, h4⟩ := g.kept b c' t fr h1
    exact ⟨c2, h3, h4.trans h2⟩
  · have h1 := h.ver d
    have h2 := g.ver d
    obtain ⟨l1, e1, c1⟩ := g.old d (by omega) l
    obtain ⟨l2, e2, c2⟩ := h.old d (by omega) l1
    exact ⟨l2, e1.trans e2, Nat.le_trans c1 c2⟩

theorem OwnV.later {w w' : World} {A : Option Nat} {off n sz L L' : Nat} {v : Value} (h : OwnV w A off n sz L v) (hL : L' ≤ L) (hk : ∀ (b : Nat) (c : Array Value) (t : TypeId) (fr : Nat × Nat), w.heap[b]? = some (Obj.cells c t fr) → ∃ c' : Array Value, w'.heap[b]? = some (Obj.cells c' t fr) ∧ c'.size = c.size) : OwnV w' A off n sz L' v := by
  cases A with
  | none => exact h
  | some b =>
    obtain ⟨c, h1, h2, h0, cells, t, fr, h3, h4⟩ := h
    obtain ⟨c', h5, h6⟩ := hk _ _ _ _ h3
    exact ⟨c, h1, h2, by omega, c', t, fr, h5, by omega⟩

theorem Conc.later {w w' : World} {ok ok' : Nat → Prop} {H H' : Heap} {α α' : Nat → Option Nat} {x : AV} {v : Value} (h : Conc w ok H α x v) (L : Later w ok H α w' ok' H' α') : Conc w' ok' H' α' x v := by
  induction h with
  | d x v h => exact .d x v (h.mono L.same L.ok)
  | agg cs vs hl hr ih => exact .agg cs vs hl ih
  | tuple cs vs hl hr ih => exact .tuple cs vs hl ih
  | fn f cs vs hl hr ih => exact .fn f cs vs hl ih
  | iface t x v h ih => exact .iface t x v ih
  | own o ver off n sz v hle h =>
    refine .own o ver off n sz v (Nat.le_trans hle (L.ver o)) fun e l => ?_
    have := L.ver o
    obtain ⟨l1, e1, c1⟩ := L.old o (by omega) l
    rw [e1]
    exact (h (by omega) l1).later c1 L.kept
  | ptr o ver off v hle h =>
    refine .ptr o ver off v (Nat.le_trans hle (L.ver o)) fun e l => ?_
    have := L.ver o
    obtain ⟨l1, e1, c1⟩ := L.old o (by omega) l
    rw [e1]
    exact h (by omega) l1

theorem ConcD.v_inv {w : World} {ok : Nat → Prop} {x v : Value} (h : ConcD w ok (.v x) v) : v = x := by cases h; rfl
theorem Conc.v_inv {w : World} {ok : Nat → Prop} {H : Heap} {α : Nat → Option Nat} {x v : Value} (h : Conc w ok H α (.v x) v) : v = x := by
  cases h with | d _ _ h => exact h.v_inv
theorem Conc.ro_inv {w : World} {ok : Nat → Prop} {H : Heap} {α : Nat → Option Nat} {l : List (List AV)} {v : Value} (h : Conc w ok H α (.ro l) v) : ConcD w ok (.ro l) v := by
  cases h with | d _ _ h => exact h
theorem Conc.rd_inv {w : World} {ok : Nat → Prop} {H : Heap} {α : Nat → Option Nat} {l : List AV} {v : Value} (h : Conc w ok H α (.rd l) v) : ConcD w ok (.rd l) v := by
  cases h with | d _ _ h => exact h
theorem ConcD.ro_slice {w : World} {ok : Nat → Prop} {l : List (List AV)} {v : Value} (h : ConcD w ok (.ro l) v) : ∃ A c, v = .slice A l.length c ∧ l.length ≤ c := by
  cases h with
  | ro0 a c ha => exact ⟨a, c, rfl, Nat.zero_le _⟩
  | ro _ b off c sz vals hl _ _ _ _ => exact ⟨_, c, rfl, hl⟩
theorem Conc.agg_inv {w : World} {ok : Nat → Prop} {H : Heap} {α : Nat → Option Nat} {cs : List AV} {v : Value} (h : Conc w ok H α (.agg cs) v) :
    ∃ vs : Array Value, v = .agg vs ∧ cs.length = vs.size ∧ ∀ (j : Nat) (x : AV) (u : Value), cs[j]? = some x → vs[j]? = some u → Conc w ok H α x u := by
  cases h with
  | d _ _ h => cases h with | agg _ vs hl hr => exact ⟨vs, rfl, hl, fun j x u h1 h2 => .d _ _ (hr j x u h1 h2)⟩
  | agg _ vs hl hr => exact ⟨vs, rfl, hl, hr⟩
theorem Conc.tuple_inv {w : World} {ok : Nat → Prop} {H : Heap} {α : Nat → Option Nat} {cs : List AV} {v : Value} (h : Conc w ok H α (.tuple cs) v) :
    ∃ vs : Array Value, v = .tuple vs ∧ cs.length = vs.size ∧ ∀ (j : Nat) (x : AV) (u : Value), cs[j]? = some x → vs[j]? = some u → Conc w ok H α x u := by
  cases h with
  | d _ _ h => cases h with | tuple _ vs hl hr => exact ⟨vs, rfl, hl, fun j x u h1 h2 => .d _ _ (hr j x u h1 h2)⟩
  | tuple _ vs hl hr => exact ⟨vs, rfl, hl, hr⟩
theorem Conc.fn_inv {w : World} {ok : Nat → Prop} {H : Heap} {α : Nat → Option Nat} {f : Nat} {cs : List AV} {v : Value} (h : Conc w ok H α (.fn f cs) v) :
    ∃ vs : Array Value, v = .func (.func f) #[] vs ∧ cs.length = vs.size ∧ ∀ (j : Nat) (x : AV) (u : Value), cs[j]? = some x → vs[j]? = some u → Conc w ok H α x u := by
  cases h with
  | d _ _ h => cases h with | fn _ _ vs hl hr => exact ⟨vs, rfl, hl, fun j x u h1 h2 => .d _ _ (hr j x u h1 h2)⟩
  | fn _ _ vs hl hr => exact ⟨vs, rfl, hl, hr⟩
theorem Conc.iface_inv {w : World} {ok : Nat → Prop} {H : Heap} {α : Nat → Option Nat} {t : Nat} {x : AV} {v : Value} (h : Conc w ok H α (.iface t x) v) :
    ∃ u, v = .iface t u ∧ Conc w ok H α x u := by
  cases h with
  | d _ _ h => cases h with | iface _ _ u h => exact ⟨u, rfl, .d _ _ h⟩
  | iface _ _ u h => exact ⟨u, rfl, h⟩
theorem Conc.own_inv {w : World} {ok : Nat → Prop} {H : Heap} {α : Nat → Option Nat} {o ver off n sz : Nat} {v : Value} (h : Conc w ok H α (.own o ver off n sz) v) :
    ver ≤ (H o).ver ∧ (ver = (H o).ver → (H o).live = true → OwnV w (α o) off n sz (H o).cs.length v) := by
  cases h with
  | d _ _ h => cases h
  | own _ _ _ _ _ _ hle h => exact ⟨hle, h⟩
theorem Conc.ptr_inv {w : World} {ok : Nat → Prop} {H : Heap} {α : Nat → Option Nat} {o ver off : Nat} {v : Value} (h : Conc w ok H α (.ptr o ver off) v) :
    ver ≤ (H o).ver ∧ (ver = (H o).ver → (H o).live = true → ∃ b, α o = some b ∧ v = .pointer (some ⟨b, off, none⟩)) := by
  cases h with
  | d _ _ h => cases h
  | ptr _ _ _ _ hle h => exact ⟨hle, h⟩

/-- Values that lead to nothing that may change. -/
inductive Pure : AV → Prop
  | v (x : Value) : Pure (.v x)
  | ro (l : List (List AV)) : Pure (.ro l)
  | rd (cs : List AV) : Pure (.rd cs)
  | agg (cs : List AV) (h : ∀ x ∈ cs, Pure x) : Pure (.agg cs)
  | tuple (cs : List AV) (h : ∀ x ∈ cs, Pure x) : Pure (.tuple cs)
  | fn (f : Nat) (cs : List AV) (h : ∀ x ∈ cs, Pure x) : Pure (.fn f cs)
  | iface (t : Nat) (x : AV) (h : Pure x) : Pure (.iface t x)
  | bot : Pure .bot

theorem Conc.pure {w : World} {ok : Nat → Prop} {H : Heap} {α : Nat → Option Nat} {x : AV} {v : Value} (hp : Pure x) (h : Conc w ok H α x v) : ConcD w ok x v := by
  induction h with
  | d x v h => exact h
  | agg cs vs hl hr ih =>
    cases hp with | agg _ hp => exact .agg cs vs hl fun j x v h1 h2 => ih j x v h1 h2 (hp x (List.mem_of_getElem? h1))
  | tuple cs vs hl hr ih =>
    cases hp with | tuple _ hp => exact .tuple cs vs hl fun j x v h1 h2 => ih j x v h1 h2 (hp x (List.mem_of_getElem? h1))
  | fn f cs vs hl hr ih =>
    cases hp with | fn _ _ hp => exact .fn f cs vs hl fun j x v h1 h2 => ih j x v h1 h2 (hp x (List.mem_of_getElem? h1))
  | iface t x v h ih => cases hp with | iface _ _ hp => exact .iface t x v (ih hp)
  | own => cases hp
  | ptr => cases hp

@[simp] theorem pure_v (x : Value) : Pure (.v x) ↔ True := ⟨fun _ => trivial, fun _ => .v x⟩
@[simp] theorem pure_ro (l : List (List AV)) : Pure (.ro l) ↔ True := ⟨fun _ => trivial, fun _ => .ro l⟩
@[simp] theorem pure_rd (l : List AV) : Pure (.rd l) ↔ True := ⟨fun _ => trivial, fun _ => .rd l⟩
@[simp] theorem pure_agg (l : List AV) : Pure (.agg l) ↔ ∀ x ∈ l, Pure x := ⟨fun h => by cases h with | agg _ h => exact h, .agg l⟩
@[simp] theorem pure_tuple (l : List AV) : Pure (.tuple l) ↔ ∀ x ∈ l, Pure x := ⟨fun h => by cases h with | tuple _ h => exact h, .tuple l⟩
@[simp] theorem pure_fn (f : Nat) (l : List AV) : Pure (.fn f l) ↔ ∀ x ∈ l, Pure x := ⟨fun h => by cases h with | fn _ _ h => exact h, .fn f l⟩
@[simp] theorem pure_iface (t : Nat) (x : AV) : Pure (.iface t x) ↔ Pure x := ⟨fun h => by cases h with | iface _ _ h => exact h, .iface t x⟩
end Go.Abs
