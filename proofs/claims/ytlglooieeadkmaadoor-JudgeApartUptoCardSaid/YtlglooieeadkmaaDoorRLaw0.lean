/- The book and the judge's machine in plain Lean. -/
import Derived.Test.YtlglooieeadkmaaDoorRF3
set_option linter.unusedVariables false
set_option linter.unusedSimpArgs false
namespace Go.Abs
open Go Go.RowKit
def hasID (n : Int) (e : S_Entry) : Bool := decide (e.ID = n)
def moveF (n p : Int) : List S_Entry → List S_Entry
  | [] => []
  | e :: r => if e.ID = n then { e with Phase := p } :: r else e :: moveF n p r
theorem fidx_spec (n p : Int) : ∀ (l : List S_Entry) (i : Int), 0 ≤ i → match l.find? (hasID n) with
    | none => fidx n l i = -1
    | some e => ∃ k : Nat, l[k]? = some e ∧ fidx n l i = i + k ∧ setPhase l k p = moveF n p l
  | [], i, h => rfl
  | e :: r, i, h => by
    by_cases he : e.ID = n
    · rw [List.find?_cons_of_pos (by simp [hasID, he])]
      exact ⟨0, rfl, by simp [fidx, he], by simp [setPhase, moveF, he]⟩
    · rw [List.find?_cons_of_neg (by simp [hasID, he])]
      have ih := fidx_spec n p r (i + 1) (by omega)
      have e1 : fidx n (e :: r) i = fidx n r (i + 1) := by simp [fidx, he]
      cases hf : r.find? (hasID n) with
      | none => rw [hf] at ih; simp only at ih ⊢; rw [e1, ih]
      | some x =>
        rw [hf] at ih
        obtain ⟨k, h1, h2, h3⟩ := ih
        exact ⟨k + 1, by simpa using h1, by rw [e1, h2]; omega, by rw [moveF, if_neg he, ← h3]; simp [setPhase]⟩
def small (b : List S_Entry) : Prop := b.length ≤ 1048576
theorem find_none {b : List S_Entry} {n : Int} (hb : small b) (h : b.find? (hasID n) = none) : F_book_find b n = some (-1) := by
  have := fidx_spec n 0 b 0 (by omega)
  rw [h] at this
  unfold F_book_find
  unfold small at hb
  rw [if_pos (by omega)]
  exact congrArg some this
theorem find_some {b : List S_Entry} {n : Int} {e : S_Entry} (hb : small b) (h : b.find? (hasID n) = some e) (p : Int) : ∃ k : Nat, F_book_find b n = some (k : Int) ∧ b[k]? = some e ∧ setPhase b k p = moveF n p b := by
  have := fidx_spec n p b 0 (by omega)
  rw [h] at this
  obtain ⟨k, h1, h2, h3⟩ := this
  refine ⟨k, ?_, h1, h3⟩
  unfold F_book_find
  unfold small at hb
  rw [if_pos (by omega), h2]
  simp
def beginS (b : List S_Entry) (e : S_Entry) : List S_Entry × Int :=
  if e.ID < 0 ∨ 999999999 < e.ID then ([], 1) else if 1 ≤ e.Phase ∧ e.Phase ≤ 3 then (if (b.find? (hasID e.ID)).isSome then ([], 5) else (b ++ [e], 0)) else ([], 1)
theorem phase_eq (p : Int) : F_book_phase p = some (decide (1 ≤ p ∧ p ≤ 3)) := by
  unfold F_book_phase
  by_cases h1 : 1 ≤ p <;> by_cases h2 : p ≤ 3 <;> simp [h1, h2]
theorem begin_eq {b : List S_Entry} {e : S_Entry} (hb : small b) : F_book_Begin b e = some (beginS b e) := by
  unfold F_book_Begin beginS
  by_cases h1 : e.ID < 0 ∨ 999999999 < e.ID
  · rw [if_pos h1, if_pos h1]
  · rw [if_neg h1, if_neg h1, phase_eq, Option.bind_some]
    by_cases h2 : 1 ≤ e.Phase ∧ e.Phase ≤ 3
    · rw [if_pos (by simpa using h2), if_pos h2]
      cases hf : b.find? (hasID e.ID) with
      | none =>
        rw [find_none hb hf, Option.bind_some, if_neg (by omega)]
        unfold small at hb
        rw [if_pos (by omega)]
        rfl
      | some x =>
        obtain ⟨k, h3, _, _⟩ := find_some hb hf 0
        rw [h3, Option.bind_some, if_pos (by omega)]
        rfl
    · rw [if_neg (by simpa using h2), if_neg h2]
theorem Find_eq {b : List S_Entry} {n : Int} (hb : small b) : F_book_Find b n = some (match b.find? (hasID n) with | none => (⟨0, 0, []⟩, false) | some e => (e, true)) := by
  unfold F_book_Find
  cases hf : b.find? (hasID n) with
  | none => rw [find_none hb hf, Option.bind_some, if_pos (by omega)]
  | some x =>
    obtain ⟨k, h3, h4, _⟩ := find_some hb hf 0
    rw [h3, Option.bind_some, if_neg (by omega)]
    simp [atI, h4]
def moveS (b : List S_Entry) (n p : Int) : List S_Entry × Int := match b.find? (hasID n) with
  | none => ([], 6)
  | some e => if (1 ≤ p ∧ p ≤ 3) ∧ e.Phase < p then (moveF n p b, 0) else ([], 9)
theorem move_eq {b : List S_Entry} {n p : Int} (hb : small b) : F_book_Move b n p = some (moveS b n p) := by
  unfold F_book_Move moveS
  cases hf : b.find? (hasID n) with
  | none => rw [find_none hb hf, Option.bind_some, if_pos (by omega)]
  | some x =>
    obtain ⟨k, h3, h4, h5⟩ := find_some hb hf p
    rw [h3, Option.bind_some, if_neg (by omega), phase_eq, Option.bind_some]
    by_cases h6 : 1 ≤ p ∧ p ≤ 3
    · rw [if_pos (by simpa using h6)]
      have : atI b (k : Int) = some x := by simp [atI, h4]
      rw [this, Option.bind_some]
      by_cases h7 : p ≤ x.Phase
      · rw [if_pos h7]; simp only; rw [if_neg (by omega)]
      · unfold small at hb
        rw [if_neg h7, if_pos (by omega)]
        simp only
        rw [if_pos ⟨h6, by omega⟩]
        simp [h5]
    · rw [if_neg (by simpa using h6)]
      simp only
      rw [if_neg (by omega)]
def okP (x : List S_Entry × Int) : List S_Entry × Bool := (x.1, decide (x.2 = 0))
def noteS (b : List S_Entry) (t : S_Told) : List S_Entry × Bool :=
  if t.Kind = 1 then okP (beginS b ⟨t.ID, 2, t.Level⟩) else if t.Kind = 2 ∨ t.Kind = 3 ∨ t.Kind = 4 then okP (beginS b ⟨t.ID, 3, t.Level⟩) else
  if t.Kind = 5 then match b.find? (hasID t.ID) with
    | none => ([], false)
    | some e => if e.Level = t.Level then okP (moveS b t.ID 3) else ([], false)
  else (b, true)
theorem y2_eq (x : List S_Entry) (n : Int) : F_judge_note_y2 x n = some (okP (x, n)) := by
  unfold F_judge_note_y2 okP
  by_cases h : n = 0 <;> simp [h]
theorem note_eq {b : List S_Entry} {t : S_Told} (hb : small b) : F_judge_note b t = some (noteS b t) := by
  have hT : F_judge_note_y1 t b t.Kind true = some (okP (beginS b ⟨t.ID, 3, t.Level⟩)) := by
    unfold F_judge_note_y1
    rw [cond_true, begin_eq hb, Option.bind_some, y2_eq]
  unfold F_judge_note noteS
  by_cases h1 : t.Kind = 1
  · rw [if_pos h1, if_pos h1, begin_eq hb, Option.bind_some, y2_eq]
  rw [if_neg h1, if_neg h1]
  by_cases h2 : t.Kind = 2
  · rw [if_pos h2, if_pos (.inl h2), hT]
  rw [if_neg h2]
  by_cases h3 : t.Kind = 3
  · rw [if_pos h3, if_pos (.inr (.inl h3)), hT]
  rw [if_neg h3]
  by_cases h4 : t.Kind = 4
  · rw [if_pos h4, if_pos (.inr (.inr h4)), hT]
  rw [if_neg h4, if_neg (by omega)]
  unfold F_judge_note_y1
  rw [cond_false]
  by_cases h5 : t.Kind = 5
  · rw [if_pos h5, if_pos h5, Find_eq hb, Option.bind_some]
    cases b.find? (hasID t.ID) with
    | none => simp
    | some e =>
      simp only [if_true]
      by_cases h6 : e.Level = t.Level
      · rw [if_pos h6, if_pos h6, move_eq hb, Option.bind_some, y2_eq]
      · rw [if_neg h6, if_neg h6]
  · rw [if_neg h5, if_neg h5, y2_eq]
    rfl
/-! ### leaving one number out -/
def keep (id : Int) (t : S_Told) : Bool := decide (t.Kind = 6 ∨ t.Kind = 7 ∨ t.ID ≠ id)
def flt (id : Int) (b : List S_Entry) : List S_Entry := b.filter fun e => decide (e.ID ≠ id)
theorem find_flt {id n : Int} (h : n ≠ id) : ∀ b : List S_Entry, (flt id b).find? (hasID n) = b.find? (hasID n)
  | [] => rfl
  | e :: r => by
    have ih := find_flt h r
    unfold flt at ih ⊢
    by_cases he : e.ID = id
    · rw [List.filter_cons_of_neg (by simpa using he), List.find?_cons_of_neg (by simp [hasID]; omega)]
      exact ih
    · rw [List.filter_cons_of_pos (by simpa using he)]
      by_cases hn : e.ID = n
      · rw [List.find?_cons_of_pos (by simp [hasID, hn]), List.find?_cons_of_pos (by simp [hasID, hn])]
      · rw [List.find?_cons_of_neg (by simp [hasID, hn]), List.find?_cons_of_neg (by simp [hasID, hn])]
        exact ih
theorem move_flt {id n p : Int} (h : n ≠ id) : ∀ b : List S_Entry, flt id (moveF n p b) = moveF n p (flt id b)
  | [] => rfl
  | e :: r => by
    have ih := move_flt (p := p) h r
    unfold flt at ih ⊢
    by_cases hn : e.ID = n
    · rw [moveF, if_pos hn, List.filter_cons_of_pos (by simp; omega), List.filter_cons_of_pos (by simp; omega), moveF, if_pos hn]
    · rw [moveF, if_neg hn]
      by_cases he : e.ID = id
      · rw [List.filter_cons_of_neg (by simpa using he), List.filter_cons_of_neg (by simpa using he)]
        exact ih
      · rw [List.filter_cons_of_pos (by simpa using he), List.filter_cons_of_pos (by simpa using he), moveF, if_neg hn, ih]
theorem move_out {id p : Int} : ∀ b : List S_Entry, flt id (moveF id p b) = flt id b
  | [] => rfl
  | e :: r => by
    have ih := move_out (id := id) (p := p) r
    unfold flt at ih ⊢
    by_cases he : e.ID = id
    · rw [moveF, if_pos he, List.filter_cons_of_neg (by simpa using he), List.filter_cons_of_neg (by simpa using he)]
    · rw [moveF, if_neg he, List.filter_cons_of_pos (by simpa using he), List.filter_cons_of_pos (by simpa using he), ih]
theorem begin_flt {id : Int} {b : List S_Entry} {e : S_Entry} (h : (beginS b e).2 = 0) : (e.ID ≠ id → beginS (flt id b) e = (flt id (beginS b e).1, 0)) ∧ (e.ID = id → flt id (beginS b e).1 = flt id b) := by
  unfold beginS at h ⊢
  by_cases h1 : e.ID < 0 ∨ 999999999 < e.ID
  · simp [h1] at h
  rw [if_neg h1] at h ⊢
  by_cases h2 : 1 ≤ e.Phase ∧ e.Phase ≤ 3
  · rw [if_pos h2] at h ⊢
    by_cases h3 : (b.find? (hasID e.ID)).isSome = true
    · simp [h3] at h
    · rw [if_neg h3] at h ⊢
      refine ⟨fun hne => ?_, fun he => ?_⟩
      · rw [if_neg h1, if_pos h2, find_flt hne, if_neg h3]
        simp [flt, hne]
      · simp only [if_neg h1, if_pos h2, if_neg h3]
        simp [flt, he]
  · simp [h2] at h
theorem note_keep {id : Int} {b : List S_Entry} {t : S_Told} (hk : keep id t = true) (h : (noteS b t).2 = true) (hkind : t.Kind = 6 ∨ t.Kind = 7 → True) : noteS (flt id b) t = (flt id (noteS b t).1, true) := by
  simp only [keep, decide_eq_true_eq] at hk
  unfold noteS at h ⊢
  by_cases h1 : t.Kind = 1
  · rw [if_pos h1] at h ⊢
    rw [if_pos h1]
    simp only [okP, decide_eq_true_eq] at h ⊢
    rw [(begin_flt (id := id) h).1 (by show t.ID ≠ id; omega)]
    simp
  rw [if_neg h1] at h ⊢
  rw [if_neg h1]
  by_cases h2 : t.Kind = 2 ∨ t.Kind = 3 ∨ t.Kind = 4
  · rw [if_pos h2] at h ⊢
    rw [if_pos h2]
    simp only [okP, decide_eq_true_eq] at h ⊢
    rw [(begin_flt (id := id) h).1 (by show t.ID ≠ id; omega)]
    simp
  rw [if_neg h2] at h ⊢
  rw [if_neg h2]
  by_cases h5 : t.Kind = 5
  · rw [if_pos h5] at h ⊢
    rw [if_pos h5, find_flt (by omega)]
    cases hf : b.find? (hasID t.ID) with
    | none => rw [hf] at h; cases h
    | some e =>
      rw [hf] at h
      simp only at h ⊢
      by_cases h6 : e.Level = t.Level
      · rw [if_pos h6] at h ⊢
        rw [if_pos h6]
        unfold moveS at h ⊢
        rw [hf] at h
        rw [find_flt (by omega), hf]
        simp only at h ⊢
        by_cases h7 : (1 ≤ (3 : Int) ∧ (3 : Int) ≤ 3) ∧ e.Phase < 3
        · rw [if_pos h7, if_pos h7]
          simp only [okP]
          rw [move_flt (by omega)]
          simp
        · rw [if_neg h7] at h
          simp [okP] at h
      · rw [if_neg h6] at h; cases h
  · rw [if_neg h5]
    rw [if_neg h5]
theorem note_out {id : Int} {b : List S_Entry} {t : S_Told} (hk : keep id t = false) (h : (noteS b t).2 = true) : flt id (noteS b t).1 = flt id b := by
  simp only [keep, decide_eq_false_iff_not, not_or] at hk
  obtain ⟨k6, k7, hid⟩ := hk
  have hid : t.ID = id := Classical.not_not.1 hid
  unfold noteS at h ⊢
  by_cases h1 : t.Kind = 1
  · rw [if_pos h1] at h ⊢
    simp only [okP, decide_eq_true_eq] at h ⊢
    exact (begin_flt (id := id) h).2 hid
  rw [if_neg h1] at h ⊢
  by_cases h2 : t.Kind = 2 ∨ t.Kind = 3 ∨ t.Kind = 4
  · rw [if_pos h2] at h ⊢
    simp only [okP, decide_eq_true_eq] at h ⊢
    exact (begin_flt (id := id) h).2 hid
  rw [if_neg h2] at h ⊢
  by_cases h5 : t.Kind = 5
  · rw [if_pos h5] at h ⊢
    cases hf : b.find? (hasID t.ID) with
    | none => rw [hf] at h; cases h
    | some e =>
      rw [hf] at h
      simp only at h ⊢
      by_cases h6 : e.Level = t.Level
      · rw [if_pos h6] at h ⊢
        unfold moveS at h ⊢
        rw [hf] at h ⊢
        simp only at h ⊢
        by_cases h7 : (1 ≤ (3 : Int) ∧ (3 : Int) ≤ 3) ∧ e.Phase < 3
        · rw [if_pos h7]
          simp only [okP]
          rw [hid]
          exact move_out _
        · rw [if_neg h7] at h
          simp [okP] at h
      · rw [if_neg h6] at h; cases h
  · rw [if_neg h5]
end Go.Abs
