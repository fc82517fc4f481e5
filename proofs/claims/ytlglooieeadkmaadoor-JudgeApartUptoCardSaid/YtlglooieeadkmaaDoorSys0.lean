/- The program at hand. -/
import Derived.Test.YtlglooieeadkmaaDoorCps4
import Derived.Test.YtlglooieeadkmaaDoorProg
import Derived.KernelRfl
import Derived.Lib.LaidTab
import Derived.Shelf.Strconv.Itoa3
set_option linter.unusedVariables false
namespace Go.Abs
open Go Go.RowKit Go.Proofs
/-- what is known of the package variables: internal/bytealg.MaxLen holds some number; the table of powers is laid -/
def Glob (P : Program) (w : World) : Prop :=
  (∃ (g : Nat) (m : Int), g < P.globals.size ∧ P.globalNamed "internal/bytealg.MaxLen" = some g ∧ w.cell? ⟨g, 0, none⟩ = some (.int .i64 m)) ∧
  (∃ g, g < P.globals.size ∧ P.globalNamed "internal/strconv.uint64pow10" = some g ∧ Lib.TabIs P w "internal/strconv.uint64pow10" .u64 Lib.pow10Tab) ∧
  ∃ g, g < P.globals.size ∧ P.globalNamed "math/bits.deBruijn64tab" = some g ∧ w.cell? ⟨g, 15, none⟩ = some (.int .u8 4)
theorem Glob.mono {P : Program} (w w' : World) (hb : ∀ b, b < P.globals.size → w'.heap[b]? = w.heap[b]?) (_ : w.heap.size ≤ w'.heap.size) (h : Glob P w) : Glob P w' := by
  obtain ⟨⟨g, m, h1, h2, h3⟩, ⟨g2, k1, k2, k3⟩, g3, m1, m2, m3⟩ := h
  refine ⟨⟨g, m, h1, h2, (World.cell?_of_block (hb g h1)).trans h3⟩, ⟨g2, k1, k2, ?_⟩, g3, m1, m2, (World.cell?_of_block (hb g3 m1)).trans m3⟩
  unfold Lib.TabIs World.var? at k3 ⊢
  rw [k2] at k3 ⊢
  simp only [Option.bind_some, hb g2 k1] at k3 ⊢
  exact k3
@[irreducible] noncomputable def sys0 : Sys := ⟨Tryd.prog, Glob Tryd.prog, Tryd.prog.globals.size, Glob.mono⟩
theorem sys_P : sys0.P = Tryd.prog := by delta sys0; rfl
theorem sys_G : sys0.G = Glob Tryd.prog := by delta sys0; rfl
theorem sys_gt : sys0.gt = Tryd.prog.globals.size := by delta sys0; rfl
theorem follows0 : sys0.P.follows .mixedOrders = true := by rw [sys_P]; kernel_rfl
/-- a contract of Go's library, of plain values -/
theorem APure.of_lib {g : Nat} {xs : List AV} {r : AV} (he : enters Tryd.prog g = true) (h : ∀ (w : World) (ok : Nat → Prop) (vs : Array Value), Glob Tryd.prog w → Tryd.prog.globals.size ≤ w.heap.size → (∀ b, ok b → b < w.heap.size) → ConcDL w ok xs vs →
    Calls Tryd.prog g vs w fun e w' => ∃ v, e = .returned v ∧ Below w.heap.size w w' ∧ ConcD w' (fun b => ok b ∨ (w.heap.size ≤ b ∧ b < w'.heap.size)) r v) : APure sys0 g xs r := by
  unfold APure
  rw [sys_P, sys_G, sys_gt]
  exact ⟨he, h⟩
theorem ConcDL.v2 {w : World} {ok : Nat → Prop} {a b : Value} {vs : Array Value} (h : ConcDL w ok [.v a, .v b] vs) : vs = #[a, b] := by
  obtain ⟨h1, h2⟩ := h
  obtain ⟨l⟩ := vs
  match l, h1 with
  | [x, y], _ =>
    have e1 := h2 0 (.v a) x rfl rfl
    have e2 := h2 1 (.v b) y rfl rfl
    cases e1
    cases e2
    rfl
theorem ConcDL.v1 {w : World} {ok : Nat → Prop} {a : Value} {vs : Array Value} (h : ConcDL w ok [.v a] vs) : vs = #[a] := by
  obtain ⟨h1, h2⟩ := h
  obtain ⟨l⟩ := vs
  match l, h1 with
  | [x], _ =>
    have e1 := h2 0 (.v a) x rfl rfl
    cases e1
    rfl
theorem APure.lib1 {g : Nat} {a r : Value} (he : enters Tryd.prog g = true) (h : ∀ w, Glob Tryd.prog w → Calls Tryd.prog g #[a] w fun e w' => e = .returned r ∧ Below w.heap.size w w') : APure sys0 g [.v a] (.v r) :=
  APure.of_lib he fun w ok vs hG _ _ hc => by
    rw [hc.v1]
    exact (h w hG).mono fun e w' ⟨h1, h2⟩ => ⟨r, h1, h2, .v r⟩
theorem APure.lib2 {g : Nat} {a b r : Value} (he : enters Tryd.prog g = true) (h : ∀ w, Glob Tryd.prog w → Calls Tryd.prog g #[a, b] w fun e w' => e = .returned r ∧ Below w.heap.size w w') : APure sys0 g [.v a, .v b] (.v r) :=
  APure.of_lib he fun w ok vs hG _ _ hc => by
    rw [hc.v2]
    exact (h w hG).mono fun e w' ⟨h1, h2⟩ => ⟨r, h1, h2, .v r⟩
/-- texts in a new block -/
theorem conc_texts {w : World} {ok : Nat → Prop} {b c : Nat} {l : List (List UInt8)} (hb : ok b) (hl : l.length ≤ c) (hc : ∀ (i : Nat) (x : List UInt8), l[i]? = some x → w.cell? ⟨b, i, none⟩ = some (.string (str x))) :
    ConcD w ok (.ro (l.map fun x => [T x])) (.slice (some ⟨b, 0, none⟩) l.length c) := by
  have e : (l.map fun x => [T x]).length = l.length := by simp
  have key : ∀ {i : Nat} {cs : List AV} {j : Nat} {x : AV}, (l.map fun x => [T x])[i]? = some cs → cs[j]? = some x → j = 0 ∧ ∃ y, l[i]? = some y ∧ x = T y := by
    intro i cs j x h1 h2
    simp only [List.getElem?_map, Option.map_eq_some_iff] at h1
    obtain ⟨y, h1, rfl⟩ := h1
    cases j with
    | succ j => simp at h2
    | zero =>
      simp only [List.getElem?_cons_zero, Option.some.injEq] at h2
      exact ⟨rfl, y, h1, h2.symm⟩
  have := ConcD.ro (w := w) (ok := ok) (l.map fun x => [T x]) b 0 c 1 (fun i _ => .string (str (l.getD i []))) (by rw [e]; exact hl) hb (by simp)
    (fun i cs j x h1 h2 => ?_) (fun i cs j x h1 h2 => ?_)
  · rw [e] at this; exact this
  · obtain ⟨rfl, y, h, rfl⟩ := key h1 h2
    have e1 : l.getD i [] = y := by simp [List.getD, h]
    rw [e1]
    simpa using hc i y h
  · obtain ⟨rfl, y, h, rfl⟩ := key h1 h2
    have e1 : l.getD i [] = y := by simp [List.getD, h]
    rw [e1]
    exact .v _
/-- texts that are read -/
theorem texts_of {w : World} {ok : Nat → Prop} {l : List (List UInt8)} {v : Value} (h : ConcD w ok (.ro (l.map fun x => [T x])) v) :
    (l = [] ∧ ∃ a c, v = .slice a 0 c) ∨ ∃ b off c, ok b ∧ l.length ≤ c ∧ v = .slice (some ⟨b, off, none⟩) l.length c ∧ ∀ (i : Nat) (x : List UInt8), l[i]? = some x → w.cell? ⟨b, off + i, none⟩ = some (.string (str x)) := by
  generalize hL : (l.map fun x => [T x]) = L at h
  cases h with
  | ro0 a c ha => exact .inl ⟨by simpa using hL, a, c, rfl⟩
  | ro l' b off c sz vals hl hok hsz hc hr =>
    subst hL
    refine .inr ⟨b, off, c, hok, by simpa using hl, by simp, fun i x hx => ?_⟩
    have h1 : (l.map fun x => [T x])[i]? = some [T x] := by simp [hx]
    have h2 := hsz [T x] (List.mem_of_getElem? h1)
    simp only [List.length_singleton] at h2
    have h3 := hc i [T x] 0 (T x) h1 rfl
    have h4 := hr i [T x] 0 (T x) h1 rfl
    rw [← h2] at h3
    generalize vals i 0 = u at h3 h4
    cases h4
    simpa using h3
end Go.Abs
