/- Numbers, names, digits: always an answer. -/
import Derived.Test.YtlglooieeadkmaaDoorRLaw2
import Derived.Lib.ItoaLen
import Derived.Lib.ItoaMem
set_option linter.unusedVariables false
set_option linter.unusedSimpArgs false
set_option maxRecDepth 100000
namespace Go.Abs
open Go Go.RowKit
theorem atI_lt {α : Type} {l : List α} {i : Nat} (h : i < l.length) : ∃ c, atI l (i : Int) = some c ∧ l[i]? = some c := by
  refine ⟨l[i], ?_, List.getElem?_eq_getElem h⟩
  unfold atI
  rw [if_pos (by omega)]
  exact List.getElem?_eq_getElem h
theorem u8_lt (c : UInt8) : (c.toNat : Int) ≤ 255 := by have := c.toNat_lt; omega
theorem num_loop (w : List UInt8) (lo hi : Int) (hw : w.length ≤ 9) : ∀ (k i : Nat) (n : Int), i + k = w.length → 0 ≤ n → n < ((10 ^ i : Nat) : Int) →
    ∃ m b, iterO (F_words_Number_l1 w lo hi (w.length : Int)) (n, (i : Int)) = some (m, b) ∧ 0 ≤ m ∧ m ≤ 999999999 := by
  intro k
  induction k with
  | zero =>
    intro i n hik h0 h1
    have hn : n ≤ 999999999 := by
      have : 10 ^ i ≤ 10 ^ 9 := Nat.pow_le_pow_right (by decide) (by omega)
      have : 10 ^ i ≤ 1000000000 := this
      omega
    by_cases h2 : n < lo
    · refine ⟨0, false, iterO_inr ?_, by omega, by omega⟩
      simp only [F_words_Number_l1]
      rw [if_neg (by omega), if_pos h2]
    by_cases h3 : hi < n
    · refine ⟨0, false, iterO_inr ?_, by omega, by omega⟩
      simp only [F_words_Number_l1]
      rw [if_neg (by omega), if_neg h2, if_pos h3]
    refine ⟨n, true, iterO_inr ?_, h0, hn⟩
    simp only [F_words_Number_l1]
    rw [if_neg (by omega), if_neg h2, if_neg h3]
  | succ k ih =>
    intro i n hik h0 h1
    obtain ⟨c, hc, _⟩ := atI_lt (l := w) (i := i) (by omega)
    have hu := u8_lt c
    have hp : 10 ^ (i + 1) = 10 ^ i * 10 := Nat.pow_succ 10 i
    have hp9 : 10 ^ i ≤ 10 ^ 9 := Nat.pow_le_pow_right (by decide) (by omega)
    have hp9 : 10 ^ i ≤ 1000000000 := hp9
    by_cases h2 : (c.toNat : Int) < 48
    · refine ⟨0, false, iterO_inr ?_, by omega, by omega⟩
      simp only [F_words_Number_l1]
      rw [if_pos (by omega), hc, Option.bind_some, if_pos h2]
    by_cases h3 : 57 < (c.toNat : Int)
    · refine ⟨0, false, iterO_inr ?_, by omega, by omega⟩
      simp only [F_words_Number_l1]
      rw [if_pos (by omega), hc, Option.bind_some, if_neg h2, Option.bind_some, if_pos h3]
    obtain ⟨m, b, h4, h5, h6⟩ := ih (i + 1) (10 * n + ((c.toNat : Int) - 48)) (by omega) (by omega) (by omega)
    refine ⟨m, b, iterO_inl ?_ h4, h5, h6⟩
    simp only [F_words_Number_l1]
    have hwr : IntKind.u8.wrap ((c.toNat : Int) - 48) = (c.toNat : Int) - 48 := IntWalk.u8_in _ ⟨by omega, by omega⟩
    rw [if_pos (by omega), hc, Option.bind_some, if_neg h2, Option.bind_some, if_neg h3, if_pos (by unfold ck; omega), Option.bind_some, hwr, if_pos (by unfold ck; omega), if_pos (by unfold ck; omega), if_pos (by unfold ck; omega)]
    rfl
theorem Number_some (w : List UInt8) (lo hi : Int) : ∃ m b, F_words_Number w lo hi = some (m, b) ∧ 0 ≤ m ∧ m ≤ 999999999 := by
  unfold F_words_Number
  by_cases h1 : (w.length : Int) < 1
  · exact ⟨0, false, by rw [if_pos h1], by omega, by omega⟩
  by_cases h2 : 9 < (w.length : Int)
  · exact ⟨0, false, by rw [if_neg h1, if_pos h2], by omega, by omega⟩
  rw [if_neg h1, if_neg h2]
  have go := num_loop w lo hi (by omega) w.length 0 0 (by omega) (by omega) (by decide)
  by_cases h3 : 1 < (w.length : Int)
  · obtain ⟨c, hc, _⟩ := atI_lt (l := w) (i := 0) (by omega)
    rw [if_pos h3, show (0 : Int) = ((0 : Nat) : Int) from rfl, hc, Option.bind_some]
    by_cases h4 : (c.toNat : Int) = 48
    · exact ⟨0, false, by rw [if_pos h4]; rfl, by omega, by omega⟩
    · rw [if_neg h4]
      exact go
  · rw [if_neg h3]
    exact go
theorem plain_some (n : Int) : F_words_plain n = some (decide ((97 ≤ n ∧ n ≤ 122) ∨ (48 ≤ n ∧ n ≤ 57))) := by
  unfold F_words_plain
  by_cases h1 : 97 ≤ n <;> by_cases h2 : n ≤ 122 <;> by_cases h3 : 48 ≤ n <;> by_cases h4 : n ≤ 57 <;> simp [h1, h2, h3, h4]
/-- a name's bytes -/
def nameC (c : UInt8) : Prop := c ≠ 10
theorem name_loop (w : List UInt8) (hw : w.length ≤ 32) : ∀ (k i : Nat), i + k = w.length →
    ∃ b, iterO (F_words_Name_l1 w (w.length : Int)) (i : Int) = some b ∧ (b = true → ∀ j c, i ≤ j → w[j]? = some c → c ≠ 10) := by
  intro k
  induction k with
  | zero =>
    intro i hi
    refine ⟨true, iterO_inr ?_, fun _ j c hj hc => ?_⟩
    · simp only [F_words_Name_l1]
      rw [if_neg (by omega)]
    · have := (List.getElem?_eq_some_iff.1 hc).1
      omega
  | succ k ih =>
    intro i hi
    obtain ⟨c, hc, hc'⟩ := atI_lt (l := w) (i := i) (by omega)
    obtain ⟨b, h1, h2⟩ := ih (i + 1) (by omega)
    have hck : ck ((i : Int) + 1) := by unfold ck; omega
    have step : c ≠ 10 → (b = true → ∀ j c, i ≤ j → w[j]? = some c → c ≠ 10) := fun hne hb j c' hj hc2 => by
      by_cases hij : i = j
      · subst hij
        rw [hc'] at hc2
        injection hc2 with hc2
        subst hc2
        exact hne
      · exact h2 hb j c' (by omega) hc2
    by_cases h3 : (97 ≤ (c.toNat : Int) ∧ (c.toNat : Int) ≤ 122) ∨ (48 ≤ (c.toNat : Int) ∧ (c.toNat : Int) ≤ 57)
    · refine ⟨b, iterO_inl (s' := ((i + 1 : Nat) : Int)) ?_ h1, step fun e => by subst e; simp at h3⟩
      simp only [F_words_Name_l1]
      rw [if_pos (by omega), hc, Option.bind_some, plain_some, Option.bind_some, if_pos (by simpa using h3), if_pos hck]
      rfl
    · by_cases h4 : (c.toNat : Int) = 45
      · refine ⟨b, iterO_inl (s' := ((i + 1 : Nat) : Int)) ?_ h1, step fun e => by subst e; simp at h4⟩
        simp only [F_words_Name_l1]
        rw [if_pos (by omega), hc, Option.bind_some, plain_some, Option.bind_some, if_neg (by simpa using h3), Option.bind_some, if_pos h4, if_pos hck]
        rfl
      · refine ⟨false, iterO_inr ?_, fun h => by cases h⟩
        simp only [F_words_Name_l1]
        rw [if_pos (by omega), hc, Option.bind_some, plain_some, Option.bind_some, if_neg (by simpa using h3), Option.bind_some, if_neg h4]
theorem Name_some (w : List UInt8) : ∃ b, F_words_Name w = some b ∧ (b = true → 10 ∉ w ∧ w.length ≤ 32) := by
  unfold F_words_Name
  by_cases h0 : w = []
  · exact ⟨false, by rw [if_pos h0], fun h => by cases h⟩
  rw [if_neg h0]
  by_cases h1 : 32 < (w.length : Int)
  · exact ⟨false, by rw [if_pos h1], fun h => by cases h⟩
  rw [if_neg h1]
  have hl : 0 < w.length := List.length_pos_iff.2 h0
  obtain ⟨c, hc, _⟩ := atI_lt (l := w) (i := 0) hl
  rw [show (0 : Int) = ((0 : Nat) : Int) from rfl, hc, Option.bind_some]
  by_cases h2 : (c.toNat : Int) < 97
  · exact ⟨false, by rw [if_pos h2], fun h => by cases h⟩
  rw [if_neg h2, Option.bind_some]
  by_cases h3 : 122 < (c.toNat : Int)
  · exact ⟨false, by rw [if_pos h3], fun h => by cases h⟩
  rw [if_neg h3]
  obtain ⟨b, h4, h5⟩ := name_loop w (by omega) w.length 0 (by omega)
  refine ⟨b, h4, fun hb => ⟨fun hm => ?_, by omega⟩⟩
  obtain ⟨j, hj⟩ := List.getElem?_of_mem hm
  exact h5 hb j 10 (by omega) hj rfl
theorem u64_range (n : Int) : 0 ≤ IntKind.u64.wrap n ∧ IntKind.u64.wrap n < 18446744073709551616 := by
  rw [IntKind.wrap_u64]
  omega
theorem unhex_loop (w : List UInt8) (hw : w.length = 16) : ∀ (k i : Nat) (n : Int), i + k = w.length → 0 ≤ n ∧ n < 18446744073709551616 →
    ∃ m b, iterO (F_words_Unhex_l1 w (w.length : Int)) (n, (i : Int)) = some (m, b) ∧ 0 ≤ m ∧ m < 18446744073709551616 := by
  intro k
  induction k with
  | zero =>
    intro i n hi hn
    refine ⟨n, true, iterO_inr ?_, hn⟩
    simp only [F_words_Unhex_l1]
    rw [if_neg (by omega)]
  | succ k ih =>
    intro i n hi hn
    obtain ⟨c, hc, hc'⟩ := atI_lt (l := w) (i := i) (by omega)
    have hck : ck ((i : Int) + 1) := by unfold ck; omega
    by_cases h : Lib.indexByte [48, 49, 50, 51, 52, 53, 54, 55, 56, 57, 97, 98, 99, 100, 101, 102] ((c.toNat : Int)).toNat.toUInt8 < 0
    · refine ⟨0, false, iterO_inr ?_, by omega, by omega⟩
      unfold F_words_Unhex_l1 F_strings_IndexByte L_IndexByte
      dsimp only
      rw [if_pos (by omega), hc, Option.bind_some, Option.bind_some, if_pos h]
    · obtain ⟨m, b, h1, h2⟩ := ih (i + 1) _ (by omega) (u64_range ((BitVec.ofInt IntKind.u64.bits (IntKind.u64.wrap (n * 2 ^ (min ((4 : Int)).toNat IntKind.u64.bits))) ||| BitVec.ofInt IntKind.u64.bits (IntKind.u64.wrap (Lib.indexByte [48, 49, 50, 51, 52, 53, 54, 55, 56, 57, 97, 98, 99, 100, 101, 102] ((c.toNat : Int)).toNat.toUInt8))).toNat : Int))
      refine ⟨m, b, iterO_inl ?_ h1, h2⟩
      unfold F_words_Unhex_l1 F_strings_IndexByte L_IndexByte
      dsimp only
      rw [if_pos (by omega), hc, Option.bind_some, Option.bind_some, if_neg h, if_pos hck]
      rfl
theorem Unhex_some (w : List UInt8) : ∃ m b, F_words_Unhex w = some (m, b) ∧ 0 ≤ m ∧ m < 18446744073709551616 := by
  unfold F_words_Unhex
  by_cases h : (w.length : Int) = 16
  · rw [if_pos h]
    exact unhex_loop w (by omega) w.length 0 0 (by omega) (by omega)
  · exact ⟨0, false, by rw [if_neg h], by omega, by omega⟩
theorem verb_some (k : Int) : ∃ v, F_trace_verb k = some v ∧ v.length ≤ 7 ∧ 10 ∉ v := by
  unfold F_trace_verb
  by_cases h1 : k = 1
  · exact ⟨_, by rw [if_pos h1], by decide, by decide⟩
  by_cases h2 : k = 2
  · exact ⟨_, by rw [if_neg h1, if_pos h2], by decide, by decide⟩
  by_cases h3 : k = 3
  · exact ⟨_, by rw [if_neg h1, if_neg h2, if_pos h3], by decide, by decide⟩
  by_cases h4 : k = 4
  · exact ⟨_, by rw [if_neg h1, if_neg h2, if_neg h3, if_pos h4], by decide, by decide⟩
  by_cases h5 : k = 5
  · exact ⟨_, by rw [if_neg h1, if_neg h2, if_neg h3, if_neg h4, if_pos h5], by decide, by decide⟩
  by_cases h6 : k = 6
  · exact ⟨_, by rw [if_neg h1, if_neg h2, if_neg h3, if_neg h4, if_neg h5, if_pos h6], by decide, by decide⟩
  by_cases h7 : k = 7
  · exact ⟨_, by rw [if_neg h1, if_neg h2, if_neg h3, if_neg h4, if_neg h5, if_neg h6, if_pos h7], by decide, by decide⟩
  · exact ⟨_, by rw [if_neg h1, if_neg h2, if_neg h3, if_neg h4, if_neg h5, if_neg h6, if_neg h7], by decide, by decide⟩
theorem decDigits_no10 : ∀ u : Nat, 10 ∉ Lib.decDigits u := by
  intro u
  rw [Lib.decDigits_eq]
  intro h
  obtain ⟨t, _, h⟩ := List.mem_map.1 h
  have : (Lib.dg u (Lib.nDigits u - 1 - t)).toNat = 10 := by rw [h]; rfl
  unfold Lib.dg at this
  simp at this
  omega
theorem Digits_some (n : Int) (h : n ≤ 9223372036854775807) : ∃ x, F_words_Digits n = some x ∧ x.length ≤ 21 ∧ 10 ∉ x := by
  have e : F_words_Digits n = some (Lib.itoa (max n 0)) := by
    unfold F_words_Digits F_strconv_Itoa L_Itoa
    rw [if_pos (by omega)]
    rfl
  refine ⟨_, e, Lib.itoa_length_le _ (by omega) (by omega), ?_⟩
  obtain ⟨u, hu⟩ := Int.eq_ofNat_of_zero_le (show 0 ≤ max n 0 by omega)
  rw [hu, Lib.itoa_nonneg]
  exact decDigits_no10 u
end Go.Abs
