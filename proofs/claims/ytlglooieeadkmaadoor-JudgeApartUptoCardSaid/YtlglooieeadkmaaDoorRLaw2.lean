/- JudgeApart, given what Write does. -/
import Derived.Test.YtlglooieeadkmaaDoorRLaw1
set_option linter.unusedVariables false
set_option linter.unusedSimpArgs false
set_option maxRecDepth 100000
namespace Go.Abs
open Go Go.RowKit
theorem cat_filter (f : S_Told × List UInt8 → Bool) : ∀ ps : List (S_Told × List UInt8), (cat ((ps.filter f).map (·.2))).length ≤ (cat (ps.map (·.2))).length
  | [] => by simp
  | p :: r => by
    have ih := cat_filter f r
    cases hf : f p with
    | true => rw [List.filter_cons_of_pos hf, List.map_cons, List.map_cons, cat_cons, cat_cons, List.length_append, List.length_append, List.length_cons, List.length_cons]; omega
    | false => rw [List.filter_cons_of_neg (by simp [hf]), List.map_cons, cat_cons, List.length_append, List.length_cons]; omega
theorem split_W : ∀ (l : List S_Told), (∀ t ∈ l, ∃ x e, F_trace_Write t = some (x, e) ∧ x.length ≤ 4194304) → (∀ t ∈ l, ∀ x, F_trace_Write t = some (x, 0) → 10 ∉ x) →
    (∃ ps, l = ps.map (·.1) ∧ allW ps) ∨ ∃ (j : Nat) (t : S_Told) (x : List UInt8) (e : Int), l[j]? = some t ∧ F_trace_Write t = some (x, e) ∧ e ≠ 0
  | [], _, _ => .inl ⟨[], rfl, fun p hp => by simp at hp⟩
  | t :: r, hw, hn => by
    obtain ⟨x, e, h1, h2⟩ := hw t (by simp)
    by_cases he : e = 0
    · subst he
      rcases split_W r (fun u hu => hw u (by simp [hu])) (fun u hu => hn u (by simp [hu])) with ⟨ps, h3, h4⟩ | ⟨j, u, y, e, h3, h4, h5⟩
      · refine .inl ⟨(t, x) :: ps, by simp [h3], fun p hp => ?_⟩
        rcases List.mem_cons.1 hp with rfl | hp
        · exact ⟨h1, h2, hn _ (by simp) _ h1⟩
        · exact h4 p hp
      · exact .inr ⟨j + 1, u, y, e, by simpa using h3, h4, h5⟩
    · exact .inr ⟨0, t, x, e, rfl, h1, he⟩
theorem filter_map (f : S_Told → Bool) (ps : List (S_Told × List UInt8)) : (ps.filter fun p => f p.1).map (·.1) = (ps.map (·.1)).filter f := by
  rw [List.filter_map]
  rfl
/-- lines of what can be written, looked at -/
theorem lines_look {ps : List (S_Told × List UInt8)} (hw : allW ps) (hp : ps.length ≤ 200) : F_usherlaw29_lines (ps.map (·.1)) = some (cat (ps.map (·.2)), true) ∧
    (4194304 < (cat (ps.map (·.2))).length → F_judge_Look (cat (ps.map (·.2))) = some (0, 3)) ∧
    ((cat (ps.map (·.2))).length ≤ 4194304 → (runT (ps.map (·.1)) [] 0 = true → F_judge_Look (cat (ps.map (·.2))) = some (0, 0)) ∧ (runT (ps.map (·.1)) [] 0 = false → ∃ k, F_judge_Look (cat (ps.map (·.2))) = some (k, 13))) := by
  refine ⟨?_, look_cat (fun p h => (hw p h).2.2) (fun p h => (Write_read (hw p h).1).1) (by omega)⟩
  have := lines_ok ps (ps.map (·.1)) 0 [] hw rfl (by omega) (by simp; omega) (by simp; omega)
  exact this
theorem apart_loop (l : List S_Told) (id : Int) (hl : l.length ≤ 100) : ∀ (r : List S_Told) (i : Nat) (acc : List S_Told), l.drop i = r → i ≤ l.length → acc.length ≤ i →
    iterO F_usherlaw29_JudgeApart_l2 (l, id, acc, (i : Int)) = iterO F_usherlaw29_JudgeApart_l2 (l, id, acc ++ r.filter (keep id), (l.length : Int)) := by
  intro r
  induction r with
  | nil =>
    intro i acc hd hi ha
    have : l.length ≤ i := List.drop_eq_nil_iff.1 hd
    have : i = l.length := by omega
    subst this
    simp
  | cons t r ih =>
    intro i acc hd hi ha
    have hlt : i < l.length := by
      apply Classical.byContradiction
      intro hc
      rw [List.drop_eq_nil_of_le (by omega)] at hd
      cases hd
    have hat : l[i]? = some t := by
      have := congrArg (·[0]?) hd
      simpa using this
    have hatI : atI l (i : Int) = some t := by
      unfold atI
      rw [if_pos (by omega)]
      exact hat
    have hdr : l.drop (i + 1) = r := by rw [← List.tail_drop, hd]; rfl
    have hck : ck ((i : Int) + 1) := by unfold ck; omega
    have hlen : acc.length + [t].length ≤ 1073741824 := by simp; omega
    cases hk : keep id t with
    | true =>
      rw [List.filter_cons_of_pos hk]
      have e : acc ++ t :: r.filter (keep id) = (acc ++ [t]) ++ r.filter (keep id) := by simp
      rw [e, ← ih (i + 1) (acc ++ [t]) hdr (by omega) (by simp; omega)]
      refine iterO_inl ?_ rfl
      simp only [keep, decide_eq_true_eq] at hk
      unfold F_usherlaw29_JudgeApart_l2 F_usherlaw29_JudgeApart_y1
      dsimp only
      rw [if_pos (by omega), hatI, Option.bind_some]
      by_cases h6 : t.Kind = 6
      · rw [if_pos h6, Option.bind_some, if_pos hlen, if_pos hck]; rfl
      rw [if_neg h6, Option.bind_some]
      by_cases h7 : t.Kind = 7
      · rw [if_pos h7, Option.bind_some, if_pos hlen, if_pos hck]; rfl
      rw [if_neg h7, Option.bind_some, if_neg (by omega), Option.bind_some, if_pos hlen, if_pos hck]; rfl
    | false =>
      rw [List.filter_cons_of_neg (by simp [hk]), ← ih (i + 1) acc hdr (by omega) (by omega)]
      refine iterO_inl ?_ rfl
      simp only [keep, decide_eq_false_iff_not, not_or] at hk
      obtain ⟨h6, h7, h8⟩ := hk
      unfold F_usherlaw29_JudgeApart_l2 F_usherlaw29_JudgeApart_y1
      dsimp only
      rw [if_pos (by omega), hatI, Option.bind_some, if_neg h6, Option.bind_some, if_neg h7, Option.bind_some, if_pos (Classical.not_not.1 h8), if_pos hck]
      rfl
theorem apart_given (l : List S_Told) (id : Int) (hA : F_usherlaw29_awake = some true) (hW : ∀ t ∈ l, ∃ x e, F_trace_Write t = some (x, e) ∧ x.length ≤ 4194304) (hN : ∀ t ∈ l, ∀ x, F_trace_Write t = some (x, 0) → 10 ∉ x) :
    F_usherlaw29_JudgeApart l id = some true := by
  have hcut : cutI l 0 (min (l.length : Int) 100) = some (l.take 100) := by
    unfold cutI
    rw [if_pos ⟨by omega, by omega, by omega⟩]
    have : (min (l.length : Int) 100).toNat = min l.length 100 := by omega
    rw [this]
    congr 1
    show (l.take (min l.length 100)).drop 0 = _
    rw [List.drop_zero, Nat.min_comm, ← List.take_take, List.take_length]
  unfold F_usherlaw29_JudgeApart
  rw [hA, Option.bind_some, if_pos rfl, hcut, Option.bind_some]
  have hW2 : ∀ t ∈ l.take 100, ∃ x e, F_trace_Write t = some (x, e) ∧ x.length ≤ 4194304 := fun t ht => hW t (List.mem_of_mem_take ht)
  have hN2 : ∀ t ∈ l.take 100, ∀ x, F_trace_Write t = some (x, 0) → 10 ∉ x := fun t ht => hN t (List.mem_of_mem_take ht)
  have hl : (l.take 100).length ≤ 100 := by simp; omega
  generalize l.take 100 = m at hW2 hN2 hl
  rcases split_W m hW2 hN2 with ⟨ps, rfl, hps⟩ | ⟨j, t, x, e, h1, h2, h3⟩
  · rw [List.length_map] at hl
    obtain ⟨g1, g2, g3⟩ := lines_look hps (by omega)
    rw [g1, Option.bind_some, if_pos rfl]
    unfold F_usherlaw29_JudgeApart_y3
    rw [cond_true]
    by_cases hlen : 4194304 < (cat (ps.map (·.2))).length
    · rw [g2 hlen, Option.bind_some, if_neg (by decide)]
    have g3 := g3 (by omega)
    cases hrun : runT (ps.map (·.1)) [] 0 with
    | false =>
      obtain ⟨k, hk⟩ := g3.2 hrun
      rw [hk, Option.bind_some, if_neg (by simp)]
    | true =>
      rw [g3.1 hrun, Option.bind_some, if_pos rfl]
      have e1 := apart_loop (ps.map (·.1)) id (by simp; omega) _ 0 [] rfl (by omega) (by simp)
      rw [show ((0 : Nat) : Int) = 0 from rfl] at e1
      rw [e1, List.nil_append]
      have hf := filter_map (keep id) ps
      rw [List.drop_zero, ← hf]
      have hqw : allW (ps.filter fun p => keep id p.1) := fun p hp => hps p (List.mem_filter.1 hp).1
      have hql : (ps.filter fun p => keep id p.1).length ≤ ps.length := List.length_filter_le _ _
      obtain ⟨q1, q2, q3⟩ := lines_look hqw (by omega)
      have hr2 := runT_filter id (ps.map (·.1)) [] 0 0 hrun (by omega)
      rw [← hf] at hr2
      have hlq := cat_filter (fun p => keep id p.1) ps
      refine iterO_inr ?_
      simp only [F_usherlaw29_JudgeApart_l2]
      rw [if_neg (by omega), q1, Option.bind_some, if_pos rfl, (q3 (by omega)).1 hr2, Option.bind_some, if_pos rfl, if_pos rfl]
  · have := lines_bad m 0 [] hW2 ⟨j, t, x, e, by omega, h1, h2, h3⟩ (by omega) (by omega) (by simp; omega)
    have e1 : F_usherlaw29_lines m = some ([], false) := this
    rw [e1, Option.bind_some, if_neg (by decide)]
    rfl
end Go.Abs
