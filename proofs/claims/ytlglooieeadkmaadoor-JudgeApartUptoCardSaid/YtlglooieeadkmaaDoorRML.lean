import Derived.Test.YtlglooieeadkmaaDoorRT
import Derived.Test.YtlglooieeadkmaaDoorRB1
import Derived.Test.YtlglooieeadkmaaDoorRB2
import Derived.Test.YtlglooieeadkmaaDoorRB3
import Derived.Test.YtlglooieeadkmaaDoorRB4

import Derived.Test.YtlglooieeadkmaaDoorRLib0
set_option linter.unusedVariables false
set_option linter.unusedSimpArgs false
set_option maxRecDepth 100000
set_option maxHeartbeats 4000000
namespace Go.Abs
open Go Go.RowKit Go.Proofs

/- Go's library, and what of the program is walked by hand -/
def F_strconv_Itoa (n : Int) : Option (List UInt8) := L_Itoa n
theorem F_strconv_Itoa_ok {n : Int} {r : List UInt8} (h : F_strconv_Itoa n = some r) : APure sys0 45 [I n] (T r) := L_Itoa_ok h
def F_strings_Repeat (s : List UInt8) (n : Int) : Option (List UInt8) := L_Repeat s n
theorem F_strings_Repeat_ok {s : List UInt8} {n : Int} {r : List UInt8} (h : F_strings_Repeat s n = some r) : APure sys0 78 [T s, I n] (T r) := L_Repeat_ok h
def F_strings_IndexByte (s : List UInt8) (n : Int) : Option Int := L_IndexByte s n
theorem F_strings_IndexByte_ok {s : List UInt8} {n r : Int} (h : F_strings_IndexByte s n = some r) : APure sys0 82 [T s, .v (.int .u8 n)] (I r) := L_IndexByte_ok h
def F_strings_Split (s p : List UInt8) : Option (List (List UInt8)) := L_Split s p
theorem F_strings_Split_ok {s p : List UInt8} {r : List (List UInt8)} (h : F_strings_Split s p = some r) : APure sys0 37 [T s, T p] (.ro (List.map cT r)) := L_Split_ok h
def F_strings_Join (s : List (List UInt8)) (p : List UInt8) : Option (List UInt8) := L_Join s p
theorem F_strings_Join_ok {s : List (List UInt8)} {p r : List UInt8} (h : F_strings_Join s p = some r) : APure sys0 43 [.ro (List.map cT s), T p] (T r) := L_Join_ok h
def F_words_Words (s : List UInt8) : Option (List (List UInt8)) := L_Fields s
theorem F_words_Words_ok {s : List UInt8} {r : List (List UInt8)} (h : F_words_Words s = some r) : APure sys0 29 [T s] (.ro (List.map cT r)) := by
  refine APure.of_call sys_P (by kernel_rfl) (w29 (T s) _ _ ?_)
  unfold b29
  refine cPure (L_Fields_ok h) (by intro x hx; simp only [List.mem_cons, List.not_mem_nil, or_false] at hx; rcases hx with rfl | rfl <;> simp) ?_
  refine fz_eq rfl ?_
  simp
def F_bits_TrailingZeros64 (n : Int) : Option Int := L_TrailingZeros64 n
theorem F_bits_TrailingZeros64_ok {n r : Int} (h : F_bits_TrailingZeros64 n = some r) : APure sys0 116 [.v (.int .u64 n)] (I r) := L_TrailingZeros64_ok h
def F_bits_TrailingZeros32 (n : Int) : Option Int := none
theorem F_bits_TrailingZeros32_ok {n r : Int} (h : F_bits_TrailingZeros32 n = some r) : APure sys0 115 [.v (.int .u32 n)] (I r) := by cases h
end Go.Abs
