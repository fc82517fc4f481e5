/- Calls that hand back memory of their own. No program text. -/
import Derived.Test.YtlglooieeadkmaaDoorCps4
set_option linter.unusedVariables false
namespace Go.Abs
open Go Go.RowKit
section
variable {S : Sys} {O : Origin} {H : Heap} {α : Nat → Option Nat} {w w' : World}
theorem Base.claim (hO : OWf S O) (h : Base O H α w) (hb : Below w.heap.size w w') (d : Nat) (cs : List AV) (vs : Array Value) (t : TypeId) {g : Nat} (hg : w.heap.size ≤ g) (hblk : w'.heap[g]? = some (Obj.cells vs t (0, 0)))
    (hl : cs.length ≤ vs.size) (hc : ∀ (j : Nat) (x : AV) (v : Value), cs[j]? = some x → vs[j]? = some v → Conc w (okA O w H α) H α x v) :
    Base O (upd H d ⟨(H d).ver + 1, true, cs, t⟩) (upd α d (some g)) w' ∧
    LaterS O H α w (upd H d ⟨(H d).ver + 1, true, cs, t⟩) (upd α d (some g)) w' := by
  have hgl : g < w'.heap.size := (Array.getElem?_eq_some_iff.1 hblk).1
  have L : LaterS O H α w (upd H d ⟨(H d).ver + 1, true, cs, t⟩) (upd α d (some g)) w' := by
    refine ⟨fun b hb' => hb.block b (okA_lt hO h.size hb'), fun b hb' => ⟨?_, fun d' hd' => ?_⟩, fun b c t' fr hb' => ⟨c, ?_, rfl⟩, fun d' => ?_, fun d' e l => ?_⟩
    · rcases hb'.1 with h1 | h1
      · exact .inl h1
      · exact .inr ⟨h1.1, by have := hb.size; omega⟩
    · by_cases e : d' = d
      · subst e
        simp only [upd_same, ne_eq, Option.some.injEq]
        have := okA_lt hO h.size hb'
        omega
      · rw [upd_ne _ _ _ e] at hd' ⊢
        exact hb'.2 d' hd'
    · rw [hb.block b (Array.getElem?_eq_some_iff.1 hb').1]; exact hb'
    · by_cases e : d' = d
      · subst e; simp
      · rw [upd_ne _ _ _ e]; exact Nat.le_refl _
    · by_cases e' : d' = d
      · subst e'; simp at e
      · rw [upd_ne _ _ _ e'] at l ⊢; exact ⟨l, rfl, by rw [upd_ne _ _ _ e']; exact Nat.le_refl _⟩
  refine ⟨⟨hb.os.trans h.os, hb.tape.trans h.tape, hb.output.trans h.output, Nat.le_trans h.size hb.size, fun b hb' hE => ?_, fun d' hd' => ?_, fun d1 d2 b l1 l2 e1 e2 => ?_, fun d' b l e => ?_⟩, L⟩
  · rw [hb.block b (by have := h.size; omega)]; exact h.block b hb' hE
  · by_cases e : d' = d
    · subst e
      unfold RelObj
      simp only [upd_same]
      exact ⟨vs, hblk, hl, fun j x v hx hv => (hc j x v hx hv).later L⟩
    · have hd0 := hd'
      rw [upd_ne _ _ _ e] at hd0
      refine relObj_keep (h.obj d' hd0) L (upd_ne _ _ _ e) (upd_ne _ _ _ e) fun b hb' => hb.block b (h.lt hd0 hb')
  · by_cases a1 : d1 = d <;> by_cases a2 : d2 = d
    · rw [a1, a2]
    · subst a1
      rw [upd_ne _ _ _ a2] at l2 e2
      simp only [upd_same, Option.some.injEq] at e1
      have := h.lt l2 e2
      omega
    · subst a2
      rw [upd_ne _ _ _ a1] at l1 e1
      simp only [upd_same, Option.some.injEq] at e2
      have := h.lt l1 e1
      omega
    · rw [upd_ne _ _ _ a1] at l1 e1
      rw [upd_ne _ _ _ a2] at l2 e2
      exact h.inj d1 d2 b l1 l2 e1 e2
  · by_cases a : d' = d
    · subst a
      simp only [upd_same, Option.some.injEq] at e
      have := h.size
      exact .inl (by omega)
    · rw [upd_ne _ _ _ a] at l e
      exact h.new d' b l e
/-- A call that hands back a row of its own: what the kit's 'ownsRow' contracts say. -/
theorem ACall.row {g : Nat} {xs : List AV} {K : AV → Heap → Prop} {cs : List AV} {t : TypeId} {n sz : Nat} {N : Prop} (d : Nat) (he : enters S.P g = true) (hcs : cs.length = n * sz) (hsz : 0 < sz)
    (hr : ∀ (α : Nat → Option Nat) (w : World) (ok : Nat → Prop) (vs : Array Value), S.G w → (∀ b, ok b → b < w.heap.size) → ConcL w ok H α xs vs →
      (∃ us : List Value, us.length = n * sz ∧ (∀ (j : Nat) (x : AV) (v : Value), cs[j]? = some x → us[j]? = some v → Conc w ok H α x v) ∧
        Calls S.P g vs w fun e w' => ∃ v', e = .returned v' ∧ w'.ownsRow w.heap.size t sz v' n us ∧ v' ≠ .slice none 0 0 ∧ Below w.heap.size w w') ∨
      (N ∧ Calls S.P g vs w fun e w' => e = .returned (.slice none 0 0) ∧ w' = w))
    (hK : K (.own d ((H d).ver + 1) 0 n sz) (upd H d ⟨(H d).ver + 1, true, cs, t⟩)) (hN : N → K N0 H) : ACall S g xs H K := by
  refine ⟨he, fun O hO α w vs hB hc => ?_⟩
  rcases hr α w _ vs (hB.glob hO) (fun b hb => okA_lt hO hB.size hb) hc with ⟨us, hul, hu, hcall⟩ | ⟨hn, hcall⟩
  · refine hcall.mono fun e w' ⟨v', h1, ⟨_, hrow⟩, hne, hb⟩ => ?_
    rcases hrow with ⟨h3, _⟩ | ⟨gb, cap, cur, rfl, hge, hblk, hcap, _, hcs2, htake⟩
    · exact (hne h3).elim
    have hle : n * sz ≤ cap * sz := Nat.mul_le_mul_right _ hcap
    obtain ⟨b1, b2⟩ := hB.claim hO hb d cs cur t hge hblk (by omega) fun j x v hx hv => by
      have hj : j < n * sz := by
        have := (List.getElem?_eq_some_iff.1 hx).1
        omega
      refine hu j x v hx ?_
      rw [← htake, List.getElem?_take_of_lt hj]
      simpa using hv
    refine ⟨_, _, _, _, h1, b1, b2, .own _ _ _ _ _ _ (by simp) fun _ _ => ?_, hK⟩
    unfold OwnV
    simp only [upd_same]
    exact ⟨cap, hcap, rfl, by omega, cur, t, (0, 0), hblk, by omega⟩
  · refine hcall.mono fun e w' ⟨h1, h2⟩ => ?_
    subst h2
    exact ⟨_, _, _, _, h1, hB, Later.refl _ _ _ _, .d _ _ (.v _), hN hn⟩
/-- cells of rows that are read -/
theorem rows_of {β : Type} {c : β → List AV} {cv : β → List Value} {ok : Nat → Prop} {l : List β} {v : Value} {sz : Nat} (hcv : ∀ x, c x = (cv x).map AV.v) (hcz : ∀ x, (c x).length = sz) (hsz : 0 < sz) (h : Conc w ok H α (.ro (l.map c)) v) :
    (l = [] ∧ ∃ a k, v = .slice a 0 k ∧ ∀ x, a = some x → x.spot = none) ∨ ∃ b off k, ok b ∧ l.length ≤ k ∧ v = .slice (some ⟨b, off, none⟩) l.length k ∧ ∀ (j : Nat) (u : Value), (l.flatMap cv)[j]? = some u → w.cell? ⟨b, off + j, none⟩ = some u := by
  have h : ConcD w ok (.ro (l.map c)) v := by
    cases h with
    | d x v h => exact h
  generalize hL : l.map c = L at h
  cases h with
  | ro0 a k ha => exact .inl ⟨by simpa using hL, a, k, rfl, ha⟩
  | ro l' b off k sz' vals hl hok hs hc hr =>
    subst hL
    refine .inr ⟨b, off, k, hok, by simpa using hl, by simp, ?_⟩
    have hvl : ∀ x, (cv x).length = sz := fun x => by have := hcz x; rw [hcv] at this; simpa using this
    intro j u hu
    have hrow : ∀ (l : List β) (j : Nat) (u : Value), (l.flatMap cv)[j]? = some u → ∃ i k x, j = i * sz + k ∧ l[i]? = some x ∧ (cv x)[k]? = some u := by
      intro l
      induction l with
      | nil => intro j u h; simp at h
      | cons x r ih =>
        intro j u h
        rw [List.flatMap_cons] at h
        by_cases hj : j < sz
        · rw [List.getElem?_append_left (by rw [hvl]; exact hj)] at h
          exact ⟨0, j, x, by simp, rfl, h⟩
        · rw [List.getElem?_append_right (by rw [hvl]; omega), hvl] at h
          obtain ⟨i, k, y, h1, h2, h3⟩ := ih _ _ h
          exact ⟨i + 1, k, y, by rw [Nat.succ_mul]; omega, by simpa using h2, h3⟩
    obtain ⟨i, k, x, rfl, hx, hk⟩ := hrow l j u hu
    have h1 : (l.map c)[i]? = some (c x) := by simp [hx]
    have h2 : (c x)[k]? = some (.v u) := by rw [hcv]; simp [hk]
    have h3 := hs (c x) (List.mem_of_getElem? h1)
    rw [hcz] at h3
    have h4 := hc i (c x) k _ h1 h2
    have h5 := hr i (c x) k _ h1 h2
    rw [← h3] at h4
    rw [h4]
    generalize vals i k = q at h5
    cases h5
    rfl
end
end Go.Abs
