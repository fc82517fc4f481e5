/- Lines of what is told: always an answer; no newline in them. -/
import Derived.Test.YtlglooieeadkmaaDoorRLaw3
set_option linter.unusedVariables false
set_option linter.unusedSimpArgs false
set_option maxRecDepth 100000
namespace Go.Abs
open Go Go.RowKit
theorem hexd_no10 (u : Nat) : hexd u ≠ 10 := by
  unfold hexd List.getD
  by_cases h : u < hexTab.length
  · rw [List.getElem?_eq_getElem h]
    have : ∀ x ∈ hexTab, x ≠ 10 := by decide
    exact this _ (List.getElem_mem h)
  · rw [List.getElem?_eq_none (by omega)]
    decide
theorem hexs_no10 : ∀ (f u : Nat) (acc : List UInt8), 10 ∉ acc → 10 ∉ hexs f u acc
  | 0, u, acc, h => by
    simp only [hexs, List.mem_cons, not_or]
    exact ⟨fun e => hexd_no10 u e.symm, h⟩
  | f + 1, u, acc, h => by
    unfold hexs
    split
    · refine hexs_no10 f _ _ ?_
      simp only [List.mem_cons, not_or]
      exact ⟨fun e => hexd_no10 _ e.symm, h⟩
    · simp only [List.mem_cons, not_or]
      exact ⟨fun e => hexd_no10 u e.symm, h⟩
theorem Hex_some (n : Int) (h0 : 0 ≤ n) (h1 : n < 18446744073709551616) : ∃ x, F_words_Hex n = some x ∧ x.length ≤ 16 ∧ 10 ∉ x := by
  obtain ⟨l1, l2⟩ := hexs_len 15 n.toNat []
  simp only [List.length_nil] at l1 l2
  refine ⟨Lib.repeatL [48] ((16 - ((hexs 15 n.toNat []).length : Int))).toNat ++ hexs 15 n.toNat [], ?_, ?_, ?_⟩
  · unfold F_words_Hex F_strconv_FormatUint F_strings_Repeat L_Repeat
    rw [if_pos ⟨rfl, h0, h1⟩, Option.bind_some, if_pos (by unfold ck; omega), if_pos ⟨by omega, by omega, by decide⟩, Option.bind_some, if_pos]
    rw [Lib.repeatL_length]
    simp only [List.length_singleton]
    omega
  · rw [List.length_append, Lib.repeatL_length]
    simp only [List.length_singleton]
    omega
  · have : ∀ k, (10 : UInt8) ∉ Lib.repeatL [48] k := fun k => by
      have := Lib.repeatL_replicate 48 1 k
      rw [show List.replicate 1 (48 : UInt8) = [48] from rfl] at this
      rw [this]
      intro hm
      have := List.eq_of_mem_replicate hm
      exact absurd this (by decide)
    rw [List.mem_append, not_or]
    exact ⟨this _, hexs_no10 _ _ _ (by simp)⟩
theorem join_some (x : List UInt8) (r : List (List UInt8)) (h : Lib.lens (x :: r) ≤ 1073000000) (hr : r.length ≤ 100) : F_strings_Join (x :: r) [32] = some (Lib.join (x :: r) [32]) ∧ (Lib.join (x :: r) [32]).length ≤ Lib.lens (x :: r) + r.length ∧ ((∀ y ∈ x :: r, 10 ∉ y) → 10 ∉ Lib.join (x :: r) [32]) := by
  have hl := Lib.join_length x r [32]
  simp only [List.length_singleton] at hl
  refine ⟨?_, by omega, fun hy hm => ?_⟩
  · unfold F_strings_Join L_Join
    rw [if_pos ⟨by simp; omega, by omega⟩]
  · rw [Lib.join_cons, List.mem_append] at hm
    rcases hm with hm | hm
    · exact hy x (by simp) hm
    · unfold Lib.joinTail at hm
      obtain ⟨l, h1, h2⟩ := List.mem_flatten.1 hm
      obtain ⟨y, h3, rfl⟩ := List.mem_map.1 h1
      rw [List.mem_append] at h2
      rcases h2 with h2 | h2
      · simp at h2
      · exact hy y (by simp [h3]) h2
/-- what may be told: fields of their kinds, a short name -/
structure okT (t : S_Told) : Prop where
  at_ : t.At ≤ 9223372036854775807
  id : t.ID ≤ 9223372036854775807
  seats : t.Seats ≤ 9223372036854775807
  why : t.Why ≤ 9223372036854775807
  d0 : 0 ≤ t.Digest
  d1 : t.Digest < 18446744073709551616
  level : t.Level.length ≤ 2097152
theorem line_some {t : S_Told} (ht : okT t) : ∃ x, F_trace_line t = some x ∧ x.length ≤ 2098000 ∧ (t.Kind = 6 ∨ t.Kind = 7 ∨ 10 ∉ t.Level → 10 ∉ x) := by
  obtain ⟨a, ha, ha1, ha2⟩ := Digits_some t.At ht.at_
  obtain ⟨v, hv, hv1, hv2⟩ := verb_some t.Kind
  have hL := ht.level
  unfold F_trace_line F_trace_line_y1
  rw [ha, Option.bind_some, hv, Option.bind_some]
  by_cases h6 : t.Kind = 6
  · obtain ⟨y, hy, hy1, hy2⟩ := Digits_some t.Why ht.why
    obtain ⟨j1, j2, j3⟩ := join_some a [v, y] (by simp [Lib.lens]; omega) (by simp)
    rw [if_pos h6, hy, Option.bind_some, if_pos (by simp)]
    refine ⟨_, by rw [show [a, v] ++ [y] = a :: [v, y] from rfl, j1, Option.bind_some], by simp [Lib.lens] at j2; omega, fun _ => j3 (by simp [ha2, hv2, hy2])⟩
  rw [if_neg h6]
  by_cases h7 : t.Kind = 7
  · obtain ⟨y, hy, hy1, hy2⟩ := Hex_some t.Digest ht.d0 ht.d1
    obtain ⟨j1, j2, j3⟩ := join_some a [v, y] (by simp [Lib.lens]; omega) (by simp)
    rw [if_pos h7, hy, Option.bind_some, if_pos (by simp)]
    refine ⟨_, by rw [show [a, v] ++ [y] = a :: [v, y] from rfl, j1, Option.bind_some], by simp [Lib.lens] at j2; omega, fun _ => j3 (by simp [ha2, hv2, hy2])⟩
  rw [if_neg h7]
  obtain ⟨i, hi, hi1, hi2⟩ := Digits_some t.ID ht.id
  rw [hi, Option.bind_some, if_pos (by simp)]
  by_cases h1 : t.Kind = 1
  · obtain ⟨y, hy, hy1, hy2⟩ := Digits_some t.Seats ht.seats
    obtain ⟨j1, j2, j3⟩ := join_some a [v, i, t.Level, y] (by simp [Lib.lens]; omega) (by simp)
    rw [if_pos h1, hy, Option.bind_some, if_pos (by simp)]
    refine ⟨_, by rw [show ([a, v] ++ [i, t.Level]) ++ [y] = a :: [v, i, t.Level, y] from rfl, j1, Option.bind_some], by simp [Lib.lens] at j2; omega, fun h => ?_⟩
    have hl : 10 ∉ t.Level := by rcases h with h | h | h <;> first | omega | exact h
    exact j3 (by simp [ha2, hv2, hi2, hl, hy2])
  rw [if_neg h1]
  by_cases h2 : t.Kind = 2
  · obtain ⟨y, hy, hy1, hy2⟩ := Digits_some t.Why ht.why
    obtain ⟨j1, j2, j3⟩ := join_some a [v, i, t.Level, y] (by simp [Lib.lens]; omega) (by simp)
    rw [if_pos h2, hy, Option.bind_some, if_pos (by simp)]
    refine ⟨_, by rw [show ([a, v] ++ [i, t.Level]) ++ [y] = a :: [v, i, t.Level, y] from rfl, j1, Option.bind_some], by simp [Lib.lens] at j2; omega, fun h => ?_⟩
    have hl : 10 ∉ t.Level := by rcases h with h | h | h <;> first | omega | exact h
    exact j3 (by simp [ha2, hv2, hi2, hl, hy2])
  rw [if_neg h2]
  obtain ⟨j1, j2, j3⟩ := join_some a [v, i, t.Level] (by simp [Lib.lens]; omega) (by simp)
  refine ⟨_, by rw [show [a, v] ++ [i, t.Level] = a :: [v, i, t.Level] from rfl, j1, Option.bind_some], by simp [Lib.lens] at j2; omega, fun h => ?_⟩
  have hl : 10 ∉ t.Level := by rcases h with h | h | h <;> first | omega | exact h
  exact j3 (by simp [ha2, hv2, hi2, hl])
end Go.Abs
