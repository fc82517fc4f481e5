/- Lines, the judge over lines, JudgeApart: given what Write does. -/
import Derived.Test.YtlglooieeadkmaaDoorRLaw0
set_option linter.unusedVariables false
set_option linter.unusedSimpArgs false
namespace Go.Abs
open Go Go.RowKit
def cat (xs : List (List UInt8)) : List UInt8 := (xs.map (· ++ [10])).flatten
theorem cat_cons (x : List UInt8) (r : List (List UInt8)) : cat (x :: r) = x ++ 10 :: cat r := by simp [cat]
theorem ib_app : ∀ {x r : List UInt8}, 10 ∉ x → Lib.indexByte (x ++ 10 :: r) 10 = x.length
  | [], r, h => by simp [Lib.indexByte]
  | b :: x, r, h => by
    have h1 : b ≠ 10 := fun e => h (by simp [e])
    have h2 : 10 ∉ x := fun e => h (by simp [e])
    have ih := ib_app (r := r) h2
    rw [List.cons_append]
    unfold Lib.indexByte
    rw [if_neg (by simpa using h1), ih, if_neg (by simp <;> omega)]
    simp
theorem splitK_cat : ∀ (xs : List (List UInt8)), (∀ x ∈ xs, 10 ∉ x) → Lib.splitK [10] 0 xs.length (cat xs) = xs ++ [[]]
  | [], _ => rfl
  | x :: r, h => by
    have hx : (10 : UInt8) ∉ x := h x (by simp)
    rw [cat_cons, List.length_cons]
    unfold Lib.splitK
    rw [Lib.index_one, ib_app hx, if_neg (by simp <;> omega)]
    have e1 : ((x.length : Int)).toNat = x.length := rfl
    rw [e1, Nat.add_zero, List.take_left, List.length_singleton]
    have e2 : (x ++ 10 :: cat r).drop (x.length + 1) = cat r := by
      rw [List.drop_append, List.drop_eq_nil_of_le (by omega)]
      simp
    rw [e2, splitK_cat r fun y hy => h y (by simp [hy])]
    rfl
theorem count_cat : ∀ (xs : List (List UInt8)), (∀ x ∈ xs, 10 ∉ x) → (cat xs).count 10 = xs.length
  | [], _ => rfl
  | x :: r, h => by
    rw [cat_cons, List.count_append, List.count_eq_zero_of_not_mem (h x (by simp)), List.count_cons_self, count_cat r fun y hy => h y (by simp [hy]), List.length_cons]
    omega
theorem split_cat {xs : List (List UInt8)} (h : ∀ x ∈ xs, 10 ∉ x) (hl : (cat xs).length ≤ 1073741824) : F_strings_Split (cat xs) [10] = some (xs ++ [[]]) := by
  unfold F_strings_Split L_Split
  rw [if_pos ⟨hl, by decide⟩]
  have e1 : Lib.countB (str (cat xs)) (str [10]) = xs.length := by
    show Lib.count (cat xs) [10] = _
    rw [Lib.count_one, count_cat xs h]
  rw [e1]
  have := Lib.splitB_data (str [10]) 0 xs.length (str (cat xs))
  have e2 : (fun s : ByteArray => s.data.toList) = bs := rfl
  rw [e2] at this
  rw [this]
  exact congrArg some (splitK_cat xs h)
theorem lines_cat {xs : List (List UInt8)} (h : ∀ x ∈ xs, 10 ∉ x) (hl : (cat xs).length ≤ 1073741824) : F_words_Lines (cat xs) = some xs := by
  unfold F_words_Lines
  rw [split_cat h hl, Option.bind_some]
  have hx : xs.length ≤ (cat xs).length := by
    rw [← count_cat xs h]
    exact List.count_le_length
  have e1 : ((xs ++ [[]]).length : Int) - 1 = xs.length := by simp
  rw [if_pos (by unfold ck; rw [e1]; omega), e1]
  have e2 : atI (xs ++ [[]]) (xs.length : Int) = some [] := by
    unfold atI
    rw [if_pos (by omega)]
    simp
  rw [e2, Option.bind_some, if_pos rfl, if_pos (by unfold ck; omega)]
  have e3 : cutI (xs ++ [[]]) 0 (xs.length : Int) = some xs := by
    unfold cutI
    rw [if_pos (by simp; omega)]
    simp
  rw [e3]
  rfl
/-! ### the machine -/
def runT : List S_Told → List S_Entry → Int → Bool
  | [], b, at_ => true
  | t :: r, b, at_ => (noteS b t).2 && decide (at_ ≤ t.At) && runT r (noteS b t).1 t.At
theorem runT_filter (id : Int) : ∀ (l : List S_Told) (b : List S_Entry) (at1 at2 : Int), runT l b at1 = true → at2 ≤ at1 → runT (l.filter (keep id)) (flt id b) at2 = true
  | [], b, at1, at2, h, h2 => rfl
  | t :: r, b, at1, at2, h, h2 => by
    simp only [runT, Bool.and_eq_true, decide_eq_true_eq] at h
    obtain ⟨⟨h3, h4⟩, h5⟩ := h
    cases hk : keep id t with
    | true =>
      rw [List.filter_cons_of_pos hk]
      simp only [runT, note_keep hk h3 (fun _ => trivial), Bool.true_and, Bool.and_eq_true, decide_eq_true_eq]
      exact ⟨by omega, runT_filter id r _ _ _ h5 (by omega)⟩
    | false =>
      rw [List.filter_cons_of_neg (by simp [hk]), ← note_out hk h3]
      exact runT_filter id r _ _ _ h5 (by omega)
theorem noteS_len (b : List S_Entry) (t : S_Told) : (noteS b t).1.length ≤ b.length + 1 := by
  have hb : ∀ e, (beginS b e).1.length ≤ b.length + 1 := fun e => by
    unfold beginS
    split
    · simp
    · split
      · split <;> simp
      · simp
  have hm : ∀ n p (l : List S_Entry), (moveF n p l).length = l.length := fun n p l => by
    induction l with
    | nil => rfl
    | cons x r ih => unfold moveF; split <;> simp [ih]
  have hs : (moveS b t.ID 3).1.length ≤ b.length + 1 := by
    unfold moveS
    split
    · simp
    · split
      · simp only; rw [hm]; omega
      · simp
  unfold noteS okP
  split
  · exact hb _
  · split
    · exact hb _
    · split
      · split
        · simp
        · split
          · exact hs
          · simp
      · simp
theorem look_run : ∀ (ps : List (S_Told × List UInt8)) (L : List (List UInt8)) (i : Nat) (b : List S_Entry) (at_ : Int), L.drop i = ps.map (·.2) → i ≤ L.length → L.length ≤ 1073741824 → (∀ p ∈ ps, F_trace_Read p.2 = some (p.1, 0)) → b.length + ps.length ≤ 1048576 →
    (runT (ps.map (·.1)) b at_ = true → iterO (F_judge_Look_l1 L (L.length : Int)) (b, at_, (i : Int)) = some (0, 0)) ∧
    (runT (ps.map (·.1)) b at_ = false → ∃ k, iterO (F_judge_Look_l1 L (L.length : Int)) (b, at_, (i : Int)) = some (k, 13))
  | [], L, i, b, at_, hd, hi, hL, hr, hb => by
    have : L.length ≤ i := List.drop_eq_nil_iff.1 hd
    refine ⟨fun _ => iterO_inr ?_, fun h => by simp [runT] at h⟩
    simp only [F_judge_Look_l1]
    rw [if_neg (by omega)]
  | p :: ps, L, i, b, at_, hd, hi, hL, hr, hb => by
    have hlt : i < L.length := by
      apply Classical.byContradiction
      intro hc
      rw [List.drop_eq_nil_of_le (by omega)] at hd
      cases hd
    have hat : L[i]? = some p.2 := by
      have := congrArg (·[0]?) hd
      simpa using this
    have hatI : atI L (i : Int) = some p.2 := by
      unfold atI
      rw [if_pos (by omega)]
      exact hat
    have hck : ck ((i : Int) + 1) := by unfold ck; omega
    have hdr : L.drop (i + 1) = ps.map (·.2) := by rw [← List.tail_drop, hd]; rfl
    simp only [List.length_cons] at hb
    have ih := look_run ps L (i + 1) (noteS b p.1).1 p.1.At hdr (by omega) hL (fun q hq => hr q (by simp [hq])) (by have := noteS_len b p.1; omega)
    have hstep : F_judge_Look_l1 L (L.length : Int) (b, at_, (i : Int)) = if (noteS b p.1).2 = true then (if p.1.At < at_ then some (.inr ((i : Int) + 1, 13)) else some (.inl ((noteS b p.1).1, p.1.At, (i : Int) + 1))) else some (.inr ((i : Int) + 1, 13)) := by
      simp only [F_judge_Look_l1]
      rw [if_pos (by omega), hatI, Option.bind_some, hr p (by simp), Option.bind_some, if_pos rfl, note_eq (by unfold small; omega), Option.bind_some]
      simp only [if_pos hck]
      split
      · rfl
      · split <;> rfl
    simp only [List.map_cons, runT]
    by_cases h1 : (noteS b p.1).2 = true
    · rw [if_pos h1] at hstep
      by_cases h2 : p.1.At < at_
      · rw [if_pos h2] at hstep
        refine ⟨fun h => ?_, fun _ => ⟨_, iterO_inr hstep⟩⟩
        simp only [Bool.and_eq_true, decide_eq_true_eq] at h
        omega
      · rw [if_neg h2] at hstep
        refine ⟨fun h => iterO_inl hstep ?_, fun h => ?_⟩
        · simp only [Bool.and_eq_true, decide_eq_true_eq] at h
          exact ih.1 h.2
        · rw [h1, decide_eq_true (by omega)] at h
          obtain ⟨k, hk⟩ := ih.2 (by simpa using h)
          exact ⟨k, iterO_inl hstep hk⟩
    · rw [if_neg h1] at hstep
      refine ⟨fun h => ?_, fun _ => ⟨_, iterO_inr hstep⟩⟩
      simp only [Bool.and_eq_true] at h
      exact absurd h.1.1 h1
theorem look_cat {ps : List (S_Told × List UInt8)} (hn : ∀ p ∈ ps, 10 ∉ p.2) (hr : ∀ p ∈ ps, F_trace_Read p.2 = some (p.1, 0)) (hp : ps.length ≤ 1000) :
    (4194304 < (cat (ps.map (·.2))).length → F_judge_Look (cat (ps.map (·.2))) = some (0, 3)) ∧
    ((cat (ps.map (·.2))).length ≤ 4194304 → (runT (ps.map (·.1)) [] 0 = true → F_judge_Look (cat (ps.map (·.2))) = some (0, 0)) ∧ (runT (ps.map (·.1)) [] 0 = false → ∃ k, F_judge_Look (cat (ps.map (·.2))) = some (k, 13))) := by
  refine ⟨fun h => ?_, fun h => ?_⟩
  · unfold F_judge_Look
    rw [if_pos (by omega)]
  · have hx : ∀ x ∈ ps.map (·.2), (10 : UInt8) ∉ x := fun x hx => by
      obtain ⟨p, hp, rfl⟩ := List.mem_map.1 hx
      exact hn p hp
    have e : F_judge_Look (cat (ps.map (·.2))) = iterO (F_judge_Look_l1 (ps.map (·.2)) ((ps.map (·.2)).length : Int)) ([], 0, ((0 : Nat) : Int)) := by
      unfold F_judge_Look
      rw [if_neg (by omega), lines_cat hx (by omega), Option.bind_some]
      rfl
    rw [e]
    exact look_run ps _ 0 [] 0 rfl (by omega) (by simp; omega) hr (by simp; omega)
/-! ### what Write gives -/
theorem Write_read {t : S_Told} {x : List UInt8} (h : F_trace_Write t = some (x, 0)) : F_trace_Read x = some (t, 0) ∧ F_trace_line t = some x := by
  unfold F_trace_Write at h
  obtain ⟨r1, h1, g1⟩ := Option.bind_eq_some_iff.1 h
  obtain ⟨r2, h2, g2⟩ := Option.bind_eq_some_iff.1 g1
  obtain ⟨u, e⟩ := r2
  simp only at g2
  clear h g1
  split at g2
  · rename_i he
    split at g2
    · rename_i hu
      simp only [Option.some.injEq, Prod.mk.injEq, and_true] at g2
      rw [← g2]
      rw [he, hu] at h2
      exact ⟨h2, h1⟩
    · simp at g2
  · simp at g2
/-- told lines that can be written: each with its text -/
def allW (ps : List (S_Told × List UInt8)) : Prop := ∀ p ∈ ps, F_trace_Write p.1 = some (p.2, 0) ∧ p.2.length ≤ 4194304 ∧ 10 ∉ p.2
theorem cat_len : ∀ (ps : List (S_Told × List UInt8)), (∀ p ∈ ps, p.2.length ≤ 4194304) → (cat (ps.map (·.2))).length ≤ ps.length * 4194305
  | [], _ => by simp [cat]
  | p :: r, h => by
    have := cat_len r fun q hq => h q (by simp [hq])
    have := h p (by simp)
    rw [List.map_cons, cat_cons, List.length_append, List.length_cons, List.length_cons]
    omega
theorem lines_ok : ∀ (ps : List (S_Told × List UInt8)) (l : List S_Told) (i : Nat) (acc : List UInt8), allW ps → l.drop i = ps.map (·.1) → i ≤ l.length → l.length ≤ 1000 → acc.length + ps.length * 4194305 ≤ 1073741824 →
    iterO (F_usherlaw29_lines_l1 l) (acc, (i : Int)) = some (acc ++ cat (ps.map (·.2)), true)
  | [], l, i, acc, hw, hd, hi, hl, ha => by
    have : l.length ≤ i := List.drop_eq_nil_iff.1 hd
    refine iterO_inr ?_
    simp only [F_usherlaw29_lines_l1]
    rw [if_neg (by omega)]
    simp [cat]
  | p :: ps, l, i, acc, hw, hd, hi, hl, ha => by
    have hlt : i < l.length := by
      apply Classical.byContradiction
      intro hc
      rw [List.drop_eq_nil_of_le (by omega)] at hd
      cases hd
    have hat : l[i]? = some p.1 := by
      have := congrArg (·[0]?) hd
      simpa using this
    have hatI : atI l (i : Int) = some p.1 := by
      unfold atI
      rw [if_pos (by omega)]
      exact hat
    obtain ⟨h1, h2, _⟩ := hw p (by simp)
    have hdr : l.drop (i + 1) = ps.map (·.1) := by rw [← List.tail_drop, hd]; rfl
    simp only [List.length_cons] at ha
    have ih := lines_ok ps l (i + 1) (acc ++ (p.2 ++ [10])) (fun q hq => hw q (by simp [hq])) hdr (by omega) hl (by simp only [List.length_append, List.length_singleton]; omega)
    refine iterO_inl (s' := (acc ++ (p.2 ++ [10]), (i : Int) + 1)) ?_ ?_
    · simp only [F_usherlaw29_lines_l1]
      rw [if_pos (by omega), hatI, Option.bind_some, h1, Option.bind_some, if_pos rfl]
      simp only
      rw [if_pos (by simp; omega), if_pos (by simp; omega), if_pos (by unfold ck; omega)]
    · have e : acc ++ cat ((p :: ps).map (·.2)) = (acc ++ (p.2 ++ [10])) ++ cat (ps.map (·.2)) := by
        rw [List.map_cons, cat_cons]
        simp
      rw [e]
      exact ih
theorem lines_bad : ∀ (l : List S_Told) (i : Nat) (acc : List UInt8), (∀ t ∈ l, ∃ x e, F_trace_Write t = some (x, e) ∧ x.length ≤ 4194304) → (∃ (j : Nat) (t : S_Told) (x : List UInt8) (e : Int), i ≤ j ∧ l[j]? = some t ∧ F_trace_Write t = some (x, e) ∧ e ≠ 0) → i ≤ l.length → l.length ≤ 1000 → acc.length + (l.length - i) * 4194305 ≤ 1073741824 →
    iterO (F_usherlaw29_lines_l1 l) (acc, (i : Int)) = some ([], false) := by
  intro l i acc hw hj hi hl ha
  generalize hn : l.length - i = n at ha
  induction n generalizing i acc with
  | zero =>
    obtain ⟨j, t, x, e, h1, h2, _, _⟩ := hj
    have := (List.getElem?_eq_some_iff.1 h2).1
    omega
  | succ n ih =>
    have hlt : i < l.length := by omega
    obtain ⟨t, ht⟩ : ∃ t, l[i]? = some t := ⟨l[i], List.getElem?_eq_getElem hlt⟩
    have hatI : atI l (i : Int) = some t := by
      unfold atI
      rw [if_pos (by omega)]
      exact ht
    obtain ⟨x, e, h1, h2⟩ := hw t (List.mem_of_getElem? ht)
    by_cases he : e = 0
    · subst he
      refine iterO_inl (s' := (acc ++ (x ++ [10]), (i : Int) + 1)) ?_ (ih (i + 1) (acc ++ (x ++ [10])) ?_ (by omega) (by omega) (by simp only [List.length_append, List.length_singleton]; omega))
      · simp only [F_usherlaw29_lines_l1]
        rw [if_pos (by omega), hatI, Option.bind_some, h1, Option.bind_some, if_pos rfl]
        simp only
        rw [if_pos (by simp; omega), if_pos (by simp; omega), if_pos (by unfold ck; omega)]
      · obtain ⟨j, t', x', e', g1, g2, g3, g4⟩ := hj
        refine ⟨j, t', x', e', ?_, g2, g3, g4⟩
        have : i ≠ j := fun hij => by
          subst hij
          rw [ht] at g2
          injection g2 with g2
          subst g2
          rw [h1] at g3
          injection g3 with g3
          injection g3 with g3 g5
          exact g4 g5.symm
        omega
    · refine iterO_inr ?_
      simp only [F_usherlaw29_lines_l1]
      rw [if_pos (by omega), hatI, Option.bind_some, h1, Option.bind_some, if_neg he]
end Go.Abs
