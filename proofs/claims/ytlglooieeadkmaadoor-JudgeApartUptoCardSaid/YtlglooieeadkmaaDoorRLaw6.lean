/- awake; JudgeApart is true for all told lines of bounded names. -/
import Derived.Test.YtlglooieeadkmaaDoorRLaw5
import Derived.KernelRfl
set_option linter.unusedVariables false
set_option linter.unusedSimpArgs false
set_option maxRecDepth 100000
namespace Go.Abs
open Go Go.RowKit
theorem dig1 (i : Nat) (h : i < 10) : F_words_Digits (i : Int) = some [UInt8.ofNat (48 + i)] := by
  have e : F_words_Digits (i : Int) = some (Lib.itoa (max (i : Int) 0)) := by
    unfold F_words_Digits F_strconv_Itoa L_Itoa
    rw [if_pos (by omega)]
    rfl
  rw [e, show max (i : Int) 0 = (i : Int) by omega, Lib.itoa_nonneg, Lib.decDigits_one h]
theorem num1 (c : UInt8) (lo hi : Int) (r : Int × Bool) (h : iterN (F_words_Number_l1 [c] lo hi 1) 3 (0, 0) = some r) : F_words_Number [c] lo hi = some r := by
  unfold F_words_Number F_words_Number_y2
  rw [if_neg (by simp), if_neg (by simp), if_neg (by simp)]
  exact iterO_iff.2 ⟨3, h⟩
theorem nameA : F_words_Name [97] = some true := by
  unfold F_words_Name
  rw [if_neg (by decide), if_neg (by decide)]
  have h : atI ([97] : List UInt8) 0 = some 97 := rfl
  rw [h, Option.bind_some, if_neg (by decide), Option.bind_some, if_neg (by decide)]
  exact iterO_iff.2 ⟨3, by decide +kernel⟩
def x1 : List UInt8 := [48, 32, 115, 116, 97, 114, 116, 101, 100, 32, 49, 32, 97, 32, 50]
def x2 : List UInt8 := [51, 32, 101, 110, 100, 101, 100, 32, 49, 32, 97]
def w1 : List (List UInt8) := [[48], [115, 116, 97, 114, 116, 101, 100], [49], [97], [50]]
def w2 : List (List UInt8) := [[51], [101, 110, 100, 101, 100], [49], [97]]
theorem fields1 : F_words_Words x1 = some w1 := by decide +kernel
theorem fields2 : F_words_Words x2 = some w2 := by decide +kernel
def t1 : S_Told := ⟨0, 1, 1, [97], 2, 0, 0⟩
def t2 : S_Told := ⟨3, 5, 1, [97], 0, 0, 0⟩
theorem n0 : F_words_Number [48] 0 999999999 = some (0, true) := num1 _ _ _ _ (by decide +kernel)
theorem n1 : F_words_Number [49] 0 999999999 = some (1, true) := num1 _ _ _ _ (by decide +kernel)
theorem n2 : F_words_Number [50] 1 16 = some (2, true) := num1 _ _ _ _ (by decide +kernel)
theorem n3 : F_words_Number [51] 0 999999999 = some (3, true) := num1 _ _ _ _ (by decide +kernel)
theorem parsed1 : F_trace_parsed w1 = some (t1, true) := by
  unfold F_trace_parsed
  have h0 : atI w1 0 = some [48] := rfl
  rw [if_neg (by decide), h0, Option.bind_some, n0, Option.bind_some, if_pos rfl]
  unfold F_trace_parsed_y5
  refine iterO_inl (s' := (w1, true, 2, 0, 0, 0, [], 0, 0, 0, 0, 1, 0, [], 0, 0, 0)) (by kernel_rfl) ?_
  refine iterO_inl (s' := (w1, true, 3, 0, 0, 0, [], 0, 0, 0, 0, 1, 0, [], 0, 0, 0)) (by kernel_rfl) ?_
  refine iterO_inl (s' := (w1, true, 4, 0, 0, 0, [], 0, 0, 0, 0, 1, 0, [], 0, 0, 0)) (by kernel_rfl) ?_
  refine iterO_inl (s' := (w1, true, 5, 0, 0, 0, [], 0, 0, 0, 0, 1, 0, [], 0, 0, 0)) (by kernel_rfl) ?_
  refine iterO_inl (s' := (w1, true, 6, 0, 0, 0, [], 0, 0, 0, 0, 1, 0, [], 0, 0, 0)) (by kernel_rfl) ?_
  refine iterO_inl (s' := (w1, true, 7, 0, 0, 0, [], 0, 0, 0, 0, 1, 0, [], 0, 0, 0)) (by kernel_rfl) ?_
  refine iterO_inl (s' := (w1, true, 8, 0, 0, 0, [], 0, 0, 0, 0, 1, 0, [], 0, 0, 0)) (by kernel_rfl) ?_
  refine iterO_inr ?_
  unfold F_trace_parsed_l4
  dsimp only
  have h2 : atI w1 2 = some [49] := rfl
  have h3 : atI w1 3 = some [97] := rfl
  have h4 : atI w1 4 = some [50] := rfl
  rw [if_neg (by decide), cond_true, if_neg (by decide), if_neg (by decide), if_neg (by decide), h2, Option.bind_some, n1, Option.bind_some, if_pos rfl]
  unfold F_trace_parsed_y3
  rw [cond_true, if_neg (by decide), h3, Option.bind_some, nameA, Option.bind_some, if_pos rfl, Option.bind_some, if_pos rfl, if_pos (by decide), h4, Option.bind_some, n2, Option.bind_some, if_pos rfl]
  rfl
theorem parsed2 : F_trace_parsed w2 = some (t2, true) := by
  unfold F_trace_parsed
  have h0 : atI w2 0 = some [51] := rfl
  rw [if_neg (by decide), h0, Option.bind_some, n3, Option.bind_some, if_pos rfl]
  unfold F_trace_parsed_y5
  refine iterO_inl (s' := (w2, true, 2, 0, 0, 0, [], 0, 0, 0, 3, 0, 0, [], 0, 0, 0)) (by kernel_rfl) ?_
  refine iterO_inl (s' := (w2, true, 3, 0, 0, 0, [], 0, 0, 0, 3, 0, 0, [], 0, 0, 0)) (by kernel_rfl) ?_
  refine iterO_inl (s' := (w2, true, 4, 0, 0, 0, [], 0, 0, 0, 3, 0, 0, [], 0, 0, 0)) (by kernel_rfl) ?_
  refine iterO_inl (s' := (w2, true, 5, 0, 0, 0, [], 0, 0, 0, 3, 0, 0, [], 0, 0, 0)) (by kernel_rfl) ?_
  refine iterO_inl (s' := (w2, true, 6, 0, 0, 0, [], 0, 0, 0, 3, 5, 0, [], 0, 0, 0)) (by kernel_rfl) ?_
  refine iterO_inl (s' := (w2, true, 7, 0, 0, 0, [], 0, 0, 0, 3, 5, 0, [], 0, 0, 0)) (by kernel_rfl) ?_
  refine iterO_inl (s' := (w2, true, 8, 0, 0, 0, [], 0, 0, 0, 3, 5, 0, [], 0, 0, 0)) (by kernel_rfl) ?_
  refine iterO_inr ?_
  unfold F_trace_parsed_l4
  dsimp only
  have h2 : atI w2 2 = some [49] := rfl
  have h3 : atI w2 3 = some [97] := rfl
  rw [if_neg (by decide), cond_true, if_neg (by decide), if_neg (by decide), if_neg (by decide), h2, Option.bind_some, n1, Option.bind_some, if_pos rfl]
  unfold F_trace_parsed_y3
  rw [cond_true, if_neg (by decide), h3, Option.bind_some, nameA, Option.bind_some, if_pos rfl, Option.bind_some, if_neg (by decide), if_neg (by decide), if_neg (by decide), if_neg (by decide), if_pos (by decide)]
  rfl
theorem read1 : F_trace_Read x1 = some (t1, 0) := by
  unfold F_trace_Read
  rw [fields1, Option.bind_some, parsed1, Option.bind_some, if_pos rfl]
  have hl : F_trace_line t1 = some x1 := by
    unfold F_trace_line t1
    dsimp only
    rw [show (0 : Int) = ((0 : Nat) : Int) from rfl, dig1 0 (by decide), Option.bind_some, show F_trace_verb 1 = some [115, 116, 97, 114, 116, 101, 100] from rfl, Option.bind_some, if_neg (by decide), if_neg (by decide),
      show (1 : Int) = ((1 : Nat) : Int) from rfl, dig1 1 (by decide), Option.bind_some, if_pos (by decide), if_pos rfl, show (2 : Int) = ((2 : Nat) : Int) from rfl, dig1 2 (by decide), Option.bind_some, if_pos (by decide)]
    kernel_rfl
  rw [hl, Option.bind_some, if_pos rfl]
theorem read2 : F_trace_Read x2 = some (t2, 0) := by
  unfold F_trace_Read
  rw [fields2, Option.bind_some, parsed2, Option.bind_some, if_pos rfl]
  have hl : F_trace_line t2 = some x2 := by
    unfold F_trace_line t2
    dsimp only
    rw [show (3 : Int) = ((3 : Nat) : Int) from rfl, dig1 3 (by decide), Option.bind_some, show F_trace_verb 5 = some [101, 110, 100, 101, 100] from rfl, Option.bind_some, if_neg (by decide), if_neg (by decide),
      show (1 : Int) = ((1 : Nat) : Int) from rfl, dig1 1 (by decide), Option.bind_some, if_pos (by decide), if_neg (by decide), if_neg (by decide)]
    kernel_rfl
  rw [hl, Option.bind_some, if_pos rfl]
theorem awake_true : F_usherlaw29_awake = some true := by
  have l1 : F_words_Lines [48, 32, 115, 116, 97, 114, 116, 101, 100, 32, 49, 32, 97, 32, 50, 10, 51, 32, 101, 110, 100, 101, 100, 32, 49, 32, 97] = some [x1, x2] := by decide +kernel
  have l2 : F_words_Lines [51, 32, 101, 110, 100, 101, 100, 32, 49, 32, 97, 10] = some [x2] := by decide +kernel
  have k1 : F_judge_Look [48, 32, 115, 116, 97, 114, 116, 101, 100, 32, 49, 32, 97, 32, 50, 10, 51, 32, 101, 110, 100, 101, 100, 32, 49, 32, 97] = some (0, 0) := by
    unfold F_judge_Look
    rw [if_neg (by decide), l1, Option.bind_some]
    exact (look_run [(t1, x1), (t2, x2)] [x1, x2] 0 [] 0 rfl (by omega) (by decide) (by intro p hp; simp only [List.mem_cons, List.not_mem_nil, or_false] at hp; rcases hp with rfl | rfl; exact read1; exact read2) (by decide)).1 (by decide +kernel)
  have k2 : F_judge_Look [51, 32, 101, 110, 100, 101, 100, 32, 49, 32, 97, 10] = some (1, 13) := by
    unfold F_judge_Look
    rw [if_neg (by decide), l2, Option.bind_some]
    refine iterO_inr ?_
    have ha : atI [x2] 0 = some x2 := rfl
    have hn : F_judge_note [] t2 = some ([], false) := by rw [note_eq (by unfold small; decide)]; decide +kernel
    unfold F_judge_Look_l1
    dsimp only
    rw [if_pos (by decide), ha, Option.bind_some, read2, Option.bind_some, if_pos rfl, hn, Option.bind_some, if_neg (by decide)]
    rw [if_neg (by decide), if_pos (by decide)]
    rfl
  unfold F_usherlaw29_awake
  rw [k1, Option.bind_some, k2, Option.bind_some, if_pos rfl, if_pos rfl, if_pos rfl, if_pos rfl]
/-- ████ the law ████ -/
theorem apart_true (l : List S_Told) (id : Int) (hl : ∀ t ∈ l, okT t) : F_usherlaw29_JudgeApart l id = some true :=
  apart_given l id awake_true (fun t ht => Write_some (hl t ht)) (fun t ht x h => Write_no10 (hl t ht) h)
end Go.Abs
