import Derived.Test.YtlglooieeadkmaaDoorRB1
import Derived.Test.YtlglooieeadkmaaDoorRML
set_option linter.unusedVariables false
set_option linter.unusedSimpArgs false
set_option maxRecDepth 100000
set_option maxHeartbeats 4000000
namespace Go.Abs
open Go Go.RowKit Go.Proofs
attribute [local irreducible] pK hK sK cK cP condK grdK joinK LoopK banK pairK bn un pick ld st fa fi ia ix ln cv al bd bS ap mx mk sl nc ex mi aBox aByt b17_y1
noncomputable def F_words_Lines_y1 (x4 : (List (List UInt8))) : Option (List (List UInt8)) :=
some (x4)
theorem F_words_Lines_y1_ok {K : AV → Heap → Prop} {x4 : (List (List UInt8))} {y : (List (List UInt8))} (h : F_words_Lines_y1 x4 = some y) (hR : ∀ q, y = q → ∀ v H, Fz (fun _ => True) H v (.ro (List.map cT q)) → K v H) {H : Heap} : b17_y1 K [(.ro (List.map cT x4))] H := by
  unfold F_words_Lines_y1 at h
  unfold b17_y1
  simp only [List.getD_cons_zero, List.getD_cons_succ]
  repeat' (first
    | (cases h; refine hR _ rfl _ _ ?_; (focus (repeat' (first | exact Fz.nil | (refine fz_eq rfl ?_; (focus (simp [pure_eE]; done))) | refine fz_tup ?_ | refine fz_agg ?_ | refine FzL.cons ?_ ?_ | exact FzL.nil | fail))))
    | fail)

noncomputable def F_words_Lines (a0 : (List UInt8)) : Option (List (List UInt8)) :=
((F_strings_Split a0 [10]).bind fun r1 =>
(if ck ((r1.length : Int) - 1) then
((atI r1 ((r1.length : Int) - 1)).bind fun e2 =>
(if e2 = [] then
(if ck ((r1.length : Int) - 1) then
((cutI r1 0 ((r1.length : Int) - 1)).bind fun l3 =>
F_words_Lines_y1 l3)
else none)
else
F_words_Lines_y1 r1))
else none))
theorem F_words_Lines_ok {a0 : (List UInt8)} {r : (List (List UInt8))} (h : F_words_Lines a0 = some r) : APure sys0 17 [(T a0)] (.ro (List.map cT r)) := by
  refine APure.of_call sys_P (by kernel_rfl) (w17 (T a0) _ _ ?_)
  have hR : ∀ q, r = q → ∀ v H, Fz (fun _ => True) H v (.ro (List.map cT q)) → Fz (fun _ => True) H v (.ro (List.map cT r)) := fun q e v H hv => by subst e; exact hv
  unfold F_words_Lines at h
  unfold b17
  repeat' (first
    | refine qEqS h (fun hb h => ?_) (fun hb h => ?_)
    | refine wCt ?_
    | refine wCf ?_
    | refine sLnM ?_
    | refine qSub h (fun hb h => ?_)
    | refine qIaR h (fun _ => rfl) (fun e he h => ?_)
    | refine qSlM h (fun _ => rfl) (fun M hM h => ?_)
    | refine sLdR1 rfl ?_
    | (refine qC h (fun r hr => F_strings_Split_ok hr) ?_ (fun r hr h => ?_); (focus (repeat' (first | exact Fz.nil | (refine fz_eq rfl ?_; (focus (simp [pure_eE]; done))) | refine fz_tup ?_ | refine fz_agg ?_ | refine FzL.cons ?_ ?_ | exact FzL.nil | fail))))
    | exact F_words_Lines_y1_ok h hR
    | refine joinK_in ?_
    | fail)

noncomputable def F_words_Words_1 (a0 : Int) : Option Bool :=
(if a0 = 32 then
some (true)
else
some (false))
theorem F_words_Words_1_ok {a0 : Int} {r : Bool} (h : F_words_Words_1 a0 = some r) : APure sys0 48 [(.v (.int .i32 a0))] (B r) := by
  refine APure.of_call sys_P (by kernel_rfl) (w48 (.v (.int .i32 a0)) _ _ ?_)
  have hR : ∀ q, r = q → ∀ v H, Fz (fun _ => True) H v (B q) → Fz (fun _ => True) H v (B r) := fun q e v H hv => by subst e; exact hv
  unfold F_words_Words_1 at h
  unfold b48
  repeat' (first
    | refine qEql h (fun hb h => ?_) (fun hb h => ?_)
    | (cases h; refine hR _ rfl _ _ ?_; (focus (repeat' (first | exact Fz.nil | (refine fz_eq rfl ?_; (focus (simp [pure_eE]; done))) | refine fz_tup ?_ | refine fz_agg ?_ | refine FzL.cons ?_ ?_ | exact FzL.nil | fail))))
    | fail)

noncomputable def F_words_Digits (a0 : Int) : Option (List UInt8) :=
((F_strconv_Itoa (max a0 0)).bind fun r1 =>
some (r1))
theorem F_words_Digits_ok {a0 : Int} {r : (List UInt8)} (h : F_words_Digits a0 = some r) : APure sys0 21 [(I a0)] (T r) := by
  refine APure.of_call sys_P (by kernel_rfl) (w21 (I a0) _ _ ?_)
  have hR : ∀ q, r = q → ∀ v H, Fz (fun _ => True) H v (T q) → Fz (fun _ => True) H v (T r) := fun q e v H hv => by subst e; exact hv
  unfold F_words_Digits at h
  unfold b21
  repeat' (first
    | refine sMax ?_
    | (refine qC h (fun r hr => F_strconv_Itoa_ok hr) ?_ (fun r hr h => ?_); (focus (repeat' (first | exact Fz.nil | (refine fz_eq rfl ?_; (focus (simp [pure_eE]; done))) | refine fz_tup ?_ | refine fz_agg ?_ | refine FzL.cons ?_ ?_ | exact FzL.nil | fail))))
    | (cases h; refine hR _ rfl _ _ ?_; (focus (repeat' (first | exact Fz.nil | (refine fz_eq rfl ?_; (focus (simp [pure_eE]; done))) | refine fz_tup ?_ | refine fz_agg ?_ | refine FzL.cons ?_ ?_ | exact FzL.nil | fail))))
    | fail)

noncomputable def F_trace_verb (a0 : Int) : Option (List UInt8) :=
(if a0 = 1 then
some ([115, 116, 97, 114, 116, 101, 100])
else
(if a0 = 2 then
some ([114, 101, 102, 117, 115, 101, 100])
else
(if a0 = 3 then
some ([108, 97, 116, 101])
else
(if a0 = 4 then
some ([103, 111, 110, 101])
else
(if a0 = 5 then
some ([101, 110, 100, 101, 100])
else
(if a0 = 6 then
some ([119, 114, 111, 110, 103])
else
(if a0 = 7 then
some ([108, 111, 97, 100, 101, 100])
else
some ([]))))))))
theorem F_trace_verb_ok {a0 : Int} {r : (List UInt8)} (h : F_trace_verb a0 = some r) : APure sys0 58 [(I a0)] (T r) := by
  refine APure.of_call sys_P (by kernel_rfl) (w58 (I a0) _ _ ?_)
  have hR : ∀ q, r = q → ∀ v H, Fz (fun _ => True) H v (T q) → Fz (fun _ => True) H v (T r) := fun q e v H hv => by subst e; exact hv
  unfold F_trace_verb at h
  unfold b58
  repeat' (first
    | refine qEql h (fun hb h => ?_) (fun hb h => ?_)
    | refine wCt ?_
    | refine wCf ?_
    | (cases h; refine hR _ rfl _ _ ?_; (focus (repeat' (first | exact Fz.nil | (refine fz_eq rfl ?_; (focus (simp [pure_eE]; done))) | refine fz_tup ?_ | refine fz_agg ?_ | refine FzL.cons ?_ ?_ | exact FzL.nil | fail))))
    | fail)

noncomputable def F_strconv_isPowerOfTwo (a0 : Int) : Option Bool :=
(if ck (a0 - 1) then
(if (IntKind.i64.wrap ((BitVec.ofInt IntKind.i64.bits a0 &&& BitVec.ofInt IntKind.i64.bits (a0 - 1)).toNat : Int)) = 0 then
some (true)
else
some (false))
else none)
theorem F_strconv_isPowerOfTwo_ok {a0 : Int} {r : Bool} (h : F_strconv_isPowerOfTwo a0 = some r) : APure sys0 112 [(I a0)] (B r) := by
  refine APure.of_call sys_P (by kernel_rfl) (w112 (I a0) _ _ ?_)
  have hR : ∀ q, r = q → ∀ v H, Fz (fun _ => True) H v (B q) → Fz (fun _ => True) H v (B r) := fun q e v H hv => by subst e; exact hv
  unfold F_strconv_isPowerOfTwo at h
  unfold b112
  repeat' (first
    | refine qEql h (fun hb h => ?_) (fun hb h => ?_)
    | refine qSub h (fun hb h => ?_)
    | refine sAnd ?_
    | refine sOr ?_
    | refine sXor ?_
    | (cases h; refine hR _ rfl _ _ ?_; (focus (repeat' (first | exact Fz.nil | (refine fz_eq rfl ?_; (focus (simp [pure_eE]; done))) | refine fz_tup ?_ | refine fz_agg ?_ | refine FzL.cons ?_ ?_ | exact FzL.nil | fail))))
    | fail)

noncomputable def F_bits_TrailingZeros (a0 : Int) : Option Int :=
((F_bits_TrailingZeros64 a0).bind fun r1 =>
some (r1))
theorem F_bits_TrailingZeros_ok {a0 : Int} {r : Int} (h : F_bits_TrailingZeros a0 = some r) : APure sys0 113 [(.v (.int .u64 a0))] (I r) := by
  refine APure.of_call sys_P (by kernel_rfl) (w113 (.v (.int .u64 a0)) _ _ ?_)
  have hR : ∀ q, r = q → ∀ v H, Fz (fun _ => True) H v (I q) → Fz (fun _ => True) H v (I r) := fun q e v H hv => by subst e; exact hv
  unfold F_bits_TrailingZeros at h
  unfold b113
  repeat' (first
    | refine wCt ?_
    | refine wCf ?_
    | (refine qC h (fun r hr => F_bits_TrailingZeros64_ok hr) ?_ (fun r hr h => ?_); (focus (repeat' (first | exact Fz.nil | (refine fz_eq rfl ?_; (focus (simp [pure_eE]; done))) | refine fz_tup ?_ | refine fz_agg ?_ | refine FzL.cons ?_ ?_ | exact FzL.nil | fail))))
    | (cases h; refine hR _ rfl _ _ ?_; (focus (repeat' (first | exact Fz.nil | (refine fz_eq rfl ?_; (focus (simp [pure_eE]; done))) | refine fz_tup ?_ | refine fz_agg ?_ | refine FzL.cons ?_ ?_ | exact FzL.nil | fail))))
    | fail)

end Go.Abs
