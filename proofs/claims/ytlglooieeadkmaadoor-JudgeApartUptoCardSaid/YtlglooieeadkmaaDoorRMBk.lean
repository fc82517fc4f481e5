import Derived.Test.YtlglooieeadkmaaDoorRT
import Derived.Test.YtlglooieeadkmaaDoorRB1
import Derived.Test.YtlglooieeadkmaaDoorRB2
import Derived.Test.YtlglooieeadkmaaDoorRB3
import Derived.Test.YtlglooieeadkmaaDoorRB4
import Derived.Test.YtlglooieeadkmaaDoorRML
import Derived.Test.YtlglooieeadkmaaDoorRF1
import Derived.Test.YtlglooieeadkmaaDoorRMH
import Derived.Test.YtlglooieeadkmaaDoorRF2

import Derived.Test.YtlglooieeadkmaaDoorCls0
import Derived.Test.YtlglooieeadkmaaDoorRSh
set_option linter.unusedVariables false
set_option linter.unusedSimpArgs false
set_option maxRecDepth 100000
set_option maxHeartbeats 4000000
namespace Go.Abs
open Go Go.RowKit Go.Proofs

/- What of package book is walked by hand. -/
/-! ### book.find -/
def fidx (n : Int) : List S_Entry → Int → Int
  | [], _ => -1
  | e :: r, i => if e.ID = n then i else fidx n r (i + 1)
def F_book_find (l : List S_Entry) (n : Int) : Option Int := if l.length ≤ 1073741824 then some (fidx n l 0) else none
theorem find1 {e : S_Entry} {n : Int} {v : Nat} {H : Heap} {K : AV → Heap → Prop} (h3 : H 3 = ⟨v, true, [I n], 3⟩) (hK : ∀ H', H' 3 = ⟨v, true, [I n], 3⟩ → (e.ID = n → K (B true) H') ∧ (e.ID ≠ n → K (B false) H')) :
    ACall sys0 84 [.agg (c_Entry e), .ptr 3 v 0] H K := by
  refine w84 _ _ H K ?_
  unfold b84
  refine sBoxA ?_
  refine sFaP (by simp [cur, upd]) ?_
  refine sLdP1 (by simp [cur, upd]) (x := I e.ID) (by simp [upd, c_Entry]) ?_
  refine sLdP1 (by simp [cur, upd, h3]) (x := I n) (by simp [upd, h3]) ?_
  have h := hK (upd H 2 ⟨(H 2).ver + 1, true, c_Entry e, 91⟩) (by simp [upd, h3])
  exact sEql (fun he => h.1 he) (fun he => h.2 he)
theorem find_loop {l : List S_Entry} {n : Int} {v : Nat} {K : AV → Heap → Prop} (hlen : l.length ≤ 1073741824) (hK : ∀ H, K (I (fidx n l 0)) H) {J : List AV → Heap → Prop} (hJ : ∀ vs H, b83_l1 K J vs H → J vs H) :
    ∀ (r : List S_Entry) (i : Nat) (H : Heap), l.drop i = r → i ≤ l.length → H 3 = ⟨v, true, [I n], 3⟩ → fidx n r i = fidx n l 0 → J [.ro (List.map c_Entry l), .fn 84 [.ptr 3 v 0], I l.length, I i] H := by
  intro r
  induction r with
  | nil =>
    intro i H hd hi h3 hf
    refine hJ _ _ ?_
    unfold b83_l1
    simp only [List.getD_cons_zero, List.getD_cons_succ]
    have : l.length ≤ i := List.drop_eq_nil_iff.1 hd
    refine sLss (fun h => by omega) (fun _ => wCf ?_)
    have := hK H
    rw [← hf] at this
    exact this
  | cons e r ih =>
    intro i H hd hi h3 hf
    refine hJ _ _ ?_
    unfold b83_l1
    simp only [List.getD_cons_zero, List.getD_cons_succ]
    have hlt : i < l.length := by
      apply Classical.byContradiction
      intro hc
      rw [List.drop_eq_nil_of_le (by omega)] at hd
      cases hd
    have hat : l[i]? = some e := by
      have := congrArg (·[0]?) hd
      simpa using this
    refine sLss (fun _ => wCt ?_) (fun h => by omega)
    refine sIaR (by simp; omega) (by intro c hc; obtain ⟨x, _, rfl⟩ := List.mem_map.1 hc; rfl) (fun c hc => ?_)
    have ec : c = c_Entry e := by
      rw [List.getElem?_map] at hc
      have : ((i : Int)).toNat = i := rfl
      rw [this, hat] at hc
      exact (Option.some.inj hc).symm
    subst ec
    refine sLdRA (Nat.le_refl _) ?_
    show ACall sys0 84 ([.agg (c_Entry e)] ++ [.ptr 3 v 0]) H _
    refine find1 h3 fun H' h3' => ⟨fun he => wCt ?_, fun he => wCf ?_⟩
    · have := hK H'
      rw [← hf] at this
      simpa [fidx, he] using this
    · refine sAdd' (by omega) ?_
      have := ih (i + 1) H' (by rw [← List.tail_drop, hd]; rfl) (by omega) h3' (by rw [← hf]; simp [fidx, he])
      exact this
theorem F_book_find_ok {l : List S_Entry} {n r : Int} (h : F_book_find l n = some r) : APure sys0 64 [.ro (List.map c_Entry l), I n] (I r) := by
  unfold F_book_find at h
  split at h
  · rename_i hlen
    injection h with h
    subst h
    refine APure.of_call sys_P (by kernel_rfl) (w64 _ _ _ _ ?_)
    unfold b64
    refine sBoxV rfl ?_
    show ACall sys0 83 ([.ro (List.map c_Entry l), .fn 84 [.ptr 3 ((H0 3).ver + 1) 0]] ++ []) _ _
    rw [List.append_nil]
    refine w83 _ _ _ _ ?_
    unfold b83
    refine sLnM ?_
    intro J hJ
    exact find_loop (n := n) (v := (H0 3).ver + 1) hlen (fun H => fz_eq rfl (by simp)) hJ l 0 _ rfl (by omega) (by simp [upd]) rfl
  · cases h

/-! ### slices.Clone -/
def cv_Entry (x : S_Entry) : List Value := [.int .i64 x.ID, .int .i64 x.Phase, .string (str x.Level)]
theorem info_Entry : ∃ i0 z, Tryd.prog.info? 91 = some i0 ∧ i0.zero = some z ∧ i0.size = 3 ∧ i0.bytes = 32 ∧ z.cells.size = 3 := by
  have h : (Tryd.prog.info? 91).map (fun i => (i.size, i.bytes, i.zero.map (·.cells.size))) = some (3, 32, some 3) := by kernel_rfl
  obtain ⟨i0, h1, h2⟩ := Option.map_eq_some_iff.1 h
  injection h2 with h3 h4
  injection h4 with h4 h5
  obtain ⟨z, h6, h7⟩ := Option.map_eq_some_iff.1 h5
  exact ⟨i0, z, h1, h6, h3, h4, h7⟩
theorem clone_ok {l : List S_Entry} {H : Heap} {K : AV → Heap → Prop} (hlen : l.length ≤ 1073741824) (hK : K (.own 40 ((H 40).ver + 1) 0 l.length 3) (upd H 40 ⟨(H 40).ver + 1, true, l.flatMap c_Entry, 91⟩)) (hN : l = [] → K N0 H) :
    ACall sys0 65 [.ro (List.map c_Entry l)] H K := by
  have hcl : ∀ l : List S_Entry, (l.flatMap c_Entry).length = l.length * 3 := flatMap_len (fun _ => rfl)
  have hvl : ∀ l : List S_Entry, (l.flatMap cv_Entry).length = l.length * 3 := fun l => by
    induction l with
    | nil => rfl
    | cons x r ih => rw [List.flatMap_cons, List.length_append, ih]; simp [cv_Entry]; omega
  have hcv : ∀ l : List S_Entry, l.flatMap c_Entry = (l.flatMap cv_Entry).map AV.v := fun l => by
    induction l with
    | nil => rfl
    | cons x r ih => rw [List.flatMap_cons, List.flatMap_cons, List.map_append, ih]; rfl
  have h1c : ∀ u ∈ l.flatMap cv_Entry, u.oneCell' = true := fun u hu => by
    obtain ⟨x, _, hx⟩ := List.mem_flatMap.1 hu
    simp only [cv_Entry, List.mem_cons, List.not_mem_nil, or_false] at hx
    rcases hx with rfl | rfl | rfl <;> rfl
  obtain ⟨i0, z, hi, hz0, hz1, hz2, hz3⟩ := info_Entry
  refine ACall.row (t := 91) (n := l.length) (sz := 3) (N := l = []) 40 (by rw [sys_P]; kernel_rfl) (hcl l) (by decide) (fun α w ok vs hG hok hc => ?_) hK hN
  rw [sys_P]
  obtain ⟨h1, h2⟩ := hc
  obtain ⟨vl⟩ := vs
  match vl, h1 with
  | [v], _ =>
    have e1 := h2 0 _ v rfl rfl
    have us : (l.flatMap cv_Entry).length = l.length * 3 ∧ ∀ (j : Nat) (x : AV) (v : Value), (l.flatMap c_Entry)[j]? = some x → (l.flatMap cv_Entry)[j]? = some v → Conc w ok H α x v := by
      refine ⟨hvl l, fun j x v hx hv => ?_⟩
      rw [hcv, List.getElem?_map, hv] at hx
      injection hx with hx
      subst hx
      exact .d _ _ (.v _)
    rcases rows_of (c := c_Entry) (cv := cv_Entry) (sz := 3) (fun _ => rfl) (fun _ => rfl) (by decide) e1 with ⟨rfl, a, k, rfl, ha⟩ | ⟨b, off, k, hb, hlk, rfl, hcell⟩
    · cases a with
      | none => exact .inr ⟨rfl, Tryd.slices_Clone_nil 0 k w⟩
      | some a =>
        obtain ⟨b, off, sp⟩ := a
        cases sp with
        | none => exact .inl ⟨_, us.1, us.2, Tryd.slices_Clone i0 z 3 32 hi hz0 hz1 hz2 hz3 (by decide) Tryd.sizeOf91 b off 0 k [] w rfl (by decide) (by decide) (by simp) (by simp)⟩
        | some sp => exact absurd (ha _ rfl) (by simp)
    · exact .inl ⟨_, us.1, us.2, Tryd.slices_Clone i0 z 3 32 hi hz0 hz1 hz2 hz3 (by decide) Tryd.sizeOf91 b off l.length k _ w us.1 (by simp [maxLen]; omega) (by omega) hcell h1c⟩

/-! ### book.Begin, book.Move -/
noncomputable def F_book_Begin (l : List S_Entry) (e : S_Entry) : Option (List S_Entry × Int) :=
  if e.ID < 0 ∨ 999999999 < e.ID then some ([], 1) else
  (F_book_phase e.Phase).bind fun p => if p = true then
    (F_book_find l e.ID).bind fun n => if 0 ≤ n then some ([], 5) else if l.length + 1 ≤ 1073741824 then some (l ++ [e], 0) else none
  else some ([], 1)
theorem bB {H : Heap} {e : S_Entry} {v : Nat} {kh : AV → Heap → Prop} (h : kh (.own 28 ((H 28).ver + 1) 0 1 3) (upd H 28 ⟨(H 28).ver + 1, true, [e].flatMap c_Entry, 91⟩)) : hK (bS (some (91, 3, z91)) H 28 1 [(0, .agg (c_Entry e))]) kh := sBS rfl h
theorem begin_end {l : List S_Entry} {e : S_Entry} {H : Heap} {o v : Nat} {t : TypeId} (hH : H o = ⟨v, true, (l ++ [e]).flatMap c_Entry, t⟩) : Fz (fun _ => True) H (.tuple [.own o v 0 (l ++ [e]).length 3, I 0]) (.tuple [.ro (List.map c_Entry (l ++ [e])), I 0]) :=
  fz_tup (.cons (fz_own hH (fun _ => rfl) pure_c_Entry) (.cons (fz_eq rfl (by simp)) .nil))
theorem F_book_Begin_ok {l : List S_Entry} {e : S_Entry} {r : List S_Entry × Int} (h : F_book_Begin l e = some r) : APure sys0 39 [.ro (List.map c_Entry l), .agg (c_Entry e)] (.tuple [.ro (List.map c_Entry r.1), I r.2]) := by
  refine APure.of_call sys_P (by kernel_rfl) (w39 _ _ _ _ ?_)
  unfold F_book_Begin at h
  unfold b39
  have err : ∀ n : Int, some (([] : List S_Entry), n) = some r → ∀ H, Fz (fun _ => True) H (.tuple [N0, I n]) (.tuple [.ro (List.map c_Entry r.1), I r.2]) := fun n hn H => by
    injection hn with hn
    subst hn
    exact fz_tup (.cons Fz.nil (.cons (fz_eq rfl (by simp)) .nil))
  refine sBoxA ?_
  refine sFaP (by simp [cur, upd]) ?_
  refine sLdP1 (by simp [cur, upd]) (x := I e.ID) (by simp [upd, c_Entry]) ?_
  have bad : ∀ H, (e.ID < 0 ∨ 999999999 < e.ID) → Fz (fun _ => True) H (.tuple [N0, I 1]) (.tuple [.ro (List.map c_Entry r.1), I r.2]) := fun H hc => by
    rw [if_pos hc] at h
    exact err 1 h H
  refine sLss (fun h0 => ?_) (fun h0 => ?_)
  · refine wGn ?_
    refine wGn ?_
    refine wGn ?_
    refine sPt ?_
    refine wGn ?_
    refine wGn ?_
    refine wGn ?_
    refine wGn ?_
    refine sPt ?_
    exact wCt (bad _ (.inl h0))
  refine wGf ?_
  refine sFaP (by simp [cur, upd]) ?_
  refine wGf ?_
  refine sLdP1 (by simp [cur, upd]) (x := I e.ID) (by simp [upd, c_Entry]) ?_
  refine wGf ?_
  refine sGtr (fun h1 => ?_) (fun h1 => ?_)
  · refine sPf ?_
    refine wGn ?_
    refine wGn ?_
    refine wGn ?_
    refine wGn ?_
    refine sPt ?_
    exact wCt (bad _ (.inr h1))
  rw [if_neg (by omega)] at h
  obtain ⟨p, hp, h⟩ := Option.bind_eq_some_iff.1 h
  refine sPf ?_
  refine wGf ?_
  refine sFaP (by simp [cur, upd]) ?_
  refine wGf ?_
  refine sLdP1 (by simp [cur, upd]) (x := I e.Phase) (by simp [upd, c_Entry]) ?_
  refine wGf ?_
  refine cPure (F_book_phase_ok hp) (by simp) ?_
  cases p with
  | false =>
    simp only [Bool.false_eq_true, if_false] at h
    refine wGf ?_
    refine sNf ?_
    refine sPf ?_
    exact wCt (err 1 h _)
  | true =>
    simp only [if_true] at h
    refine wGf ?_
    refine sNt ?_
    refine sPf ?_
    refine wCf ?_
    obtain ⟨n, hn, h⟩ := Option.bind_eq_some_iff.1 h
    refine sFaP (by simp [cur, upd]) ?_
    refine sLdP1 (by simp [cur, upd]) (x := I e.ID) (by simp [upd, c_Entry]) ?_
    refine cPure (F_book_find_ok hn) (by simp) ?_
    refine sGeq (fun h2 => ?_) (fun h2 => ?_)
    · rw [if_pos h2] at h
      exact wCt (err 5 h _)
    rw [if_neg (by omega)] at h
    split at h
    · rename_i hlen
      injection h with h
      subst h
      refine wCf (joinK_in ?_)
      have ld3 : ∀ (H : Heap) (k : AV → Prop), H 3 = ⟨(H0 3).ver + 1, true, c_Entry e, 91⟩ → k (.agg (c_Entry e)) → pK (ld (some (true, 3)) H (.ptr 3 ((H0 3).ver + 1) 0)) k := fun H k hH hk =>
        sLdPA (by simp [cur, hH]) (by simp [hH, c_Entry, Nat.ble]) (by simp [hH, c_Entry]) hk
      have fin : ∀ (H : Heap) (t26 : AV), H 28 = ⟨(H0 28).ver + 1, true, [e].flatMap c_Entry, 91⟩ → (t26 = .own 40 ((H0 40).ver + 1) 0 l.length 3 ∧ H 40 = ⟨(H0 40).ver + 1, true, l.flatMap c_Entry, 91⟩ ∨ t26 = N0 ∧ l = []) →
          hK (ap (some (91, 3)) H 29 t26 (.own 28 ((H0 28).ver + 1) 0 1 3)) fun t29 H => b39_y1 (fun r0 H' => Fz (fun _ => True) H' r0 (.tuple [.ro (List.map c_Entry (l ++ [e])), I 0])) [t29, I 0] H := by
        intro H t26 h28 h26
        unfold b39_y1
        simp only [List.getD_cons_zero, List.getD_cons_succ]
        rcases h26 with ⟨rfl, h40⟩ | ⟨rfl, rfl⟩
        · exact qApOO (c := c_Entry) (y := ()) (X := some ()) (if_pos (by simpa using hlen)) (fun _ => rfl) leaf_c_Entry h40 h28 fun _ => begin_end (upd_same _ _ _)
        · exact qApNO (c := c_Entry) (y := ()) (X := some ()) (m := [e]) (if_pos (by simp)) (fun _ => rfl) leaf_c_Entry h28 fun _ => begin_end (upd_same _ _ _)
      refine ⟨?_, ?_⟩
      · refine clone_ok (by omega) ?_ fun hl => ?_
        · refine ld3 _ _ (by simp [upd]) ?_
          refine bB (v := 0) ?_
          refine fin _ _ (by simp [upd]) (.inl ⟨by simp [upd], by simp [upd]⟩)
        · refine ld3 _ _ (by simp [upd]) ?_
          refine bB (v := 0) ?_
          refine fin _ _ (by simp [upd]) (.inr ⟨rfl, hl⟩)
      · refine ld3 _ _ (by simp [upd]) ?_
        refine ⟨?_, ?_⟩
        · refine clone_ok (by omega) ?_ fun hl => ?_
          · refine bB (v := 0) ?_
            refine fin _ _ (by simp [upd]) (.inl ⟨by simp [upd], by simp [upd]⟩)
          · refine bB (v := 0) ?_
            refine fin _ _ (by simp [upd]) (.inr ⟨rfl, hl⟩)
        · refine bB (v := 0) ?_
          refine clone_ok (by omega) ?_ fun hl => ?_
          · refine fin _ _ (by simp [upd]) (.inl ⟨by simp [upd], by simp [upd]⟩)
          · refine fin _ _ (by simp [upd]) (.inr ⟨rfl, hl⟩)
    · cases h

def setPhase (l : List S_Entry) (i : Nat) (p : Int) : List S_Entry := l.modify i fun e => { e with Phase := p }
theorem set_flat (p : Int) : ∀ (l : List S_Entry) (i : Nat), i < l.length → (l.flatMap c_Entry).take (i * 3 + 1) ++ [I p] ++ (l.flatMap c_Entry).drop (i * 3 + 1 + 1) = (setPhase l i p).flatMap c_Entry
  | [], i, h => by simp at h
  | x :: r, 0, h => by simp [setPhase, c_Entry]
  | x :: r, i + 1, h => by
    have ih := set_flat p r i (by simpa using h)
    rw [List.flatMap_cons]
    have e1 : (c_Entry x ++ r.flatMap c_Entry).take ((i + 1) * 3 + 1) = c_Entry x ++ (r.flatMap c_Entry).take (i * 3 + 1) := by
      rw [List.take_append]
      have : (c_Entry x).length = 3 := rfl
      rw [this, show (i + 1) * 3 + 1 - 3 = i * 3 + 1 by omega, List.take_of_length_le (by rw [this]; omega)]
    have e2 : (c_Entry x ++ r.flatMap c_Entry).drop ((i + 1) * 3 + 1 + 1) = (r.flatMap c_Entry).drop (i * 3 + 1 + 1) := by
      rw [List.drop_append]
      have : (c_Entry x).length = 3 := rfl
      rw [this, show (i + 1) * 3 + 1 + 1 - 3 = i * 3 + 1 + 1 by omega, List.drop_eq_nil_of_le (by rw [this]; omega)]
      rfl
    rw [e1, e2]
    show _ = (List.modify (x :: r) (i + 1) _).flatMap c_Entry
    rw [List.modify_succ_cons, List.flatMap_cons, List.append_assoc, List.append_assoc, ← List.append_assoc ((r.flatMap c_Entry).take _), ih]
    rfl
noncomputable def F_book_Move (l : List S_Entry) (a b : Int) : Option (List S_Entry × Int) :=
  (F_book_find l a).bind fun i => if i < 0 then some ([], 6) else
  (F_book_phase b).bind fun p => if p = true then (atI l i).bind fun e => if b ≤ e.Phase then some ([], 9) else if l.length ≤ 1073741824 then some (setPhase l i.toNat b, 0) else none
  else some ([], 9)
theorem F_book_Move_ok {l : List S_Entry} {a b : Int} {r : List S_Entry × Int} (h : F_book_Move l a b = some r) : APure sys0 41 [.ro (List.map c_Entry l), I a, I b] (.tuple [.ro (List.map c_Entry r.1), I r.2]) := by
  refine APure.of_call sys_P (by kernel_rfl) (w41 _ _ _ _ _ ?_)
  unfold F_book_Move at h
  unfold b41
  have err : ∀ n : Int, some (([] : List S_Entry), n) = some r → ∀ H, Fz (fun _ => True) H (.tuple [N0, I n]) (.tuple [.ro (List.map c_Entry r.1), I r.2]) := fun n hn H => by
    injection hn with hn
    subst hn
    exact fz_tup (.cons Fz.nil (.cons (fz_eq rfl (by simp)) .nil))
  obtain ⟨i, hi, h⟩ := Option.bind_eq_some_iff.1 h
  refine cPure (F_book_find_ok hi) (by simp) ?_
  refine sLss (fun h0 => ?_) (fun h0 => ?_)
  · rw [if_pos h0] at h
    exact wCt (err 6 h _)
  rw [if_neg (by omega)] at h
  obtain ⟨p, hp, h⟩ := Option.bind_eq_some_iff.1 h
  refine wCf (cPure (F_book_phase_ok hp) (by simp) ?_)
  cases p with
  | false =>
    simp only [Bool.false_eq_true, if_false] at h
    refine sNf ?_
    refine wGn ?_
    refine wGn ?_
    refine wGn ?_
    refine wGn ?_
    refine wGn ?_
    refine wGn ?_
    refine wGn ?_
    refine sPt ?_
    exact wCt (err 9 h _)
  | true =>
    simp only [if_true] at h
    refine sNt ?_
    refine wGf ?_
    refine wGf ?_
    refine wGf ?_
    refine wGf ?_
    refine qIaR h (fun _ => rfl) (fun e he h => ?_)
    refine wGf ?_
    refine sFaR ?_
    refine wGf ?_
    refine sLdR1 (x := I e.Phase) rfl ?_
    refine wGf ?_
    refine sLeq (fun h1 => ?_) (fun h1 => ?_)
    · rw [if_pos h1] at h
      exact sPf (wCt (err 9 h _))
    rw [if_neg (by omega)] at h
    split at h
    · rename_i hlen
      injection h with h
      subst h
      have hil : i.toNat < l.length := (List.getElem?_eq_some_iff.1 (atI_some he).2).1
      refine sPf (wCf ?_)
      refine clone_ok hlen ?_ fun hl => by subst hl; simp at hil
      refine sIaO (by simp [cur]) ⟨by omega, by omega⟩ ?_
      refine sFaP (by simp [cur]) ?_
      have hcl : (l.flatMap c_Entry).length = l.length * 3 := flatMap_len (c := c_Entry) (sz := 3) (fun _ => rfl) l
      refine sStP (cs := [I b]) (by simp [cur]) rfl rfl rfl (by rw [Nat.ble_eq]; simp only [upd_same, hcl]; omega) ?_
      simp only [upd_same, Nat.zero_add]
      rw [set_flat b l i.toNat hil]
      refine fz_tup (.cons ?_ (.cons (fz_eq rfl (by simp)) .nil))
      have hsl : (setPhase l i.toNat b).length = l.length := by simp [setPhase]
      rw [← hsl]
      exact fz_own (upd_same _ _ _) (fun _ => rfl) pure_c_Entry
    · cases h
end Go.Abs
