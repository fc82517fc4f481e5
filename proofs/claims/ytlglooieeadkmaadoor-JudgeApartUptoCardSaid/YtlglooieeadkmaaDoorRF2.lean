import Derived.Test.YtlglooieeadkmaaDoorRB2
import Derived.Test.YtlglooieeadkmaaDoorRML
import Derived.Test.YtlglooieeadkmaaDoorRF1
import Derived.Test.YtlglooieeadkmaaDoorRMH
set_option linter.unusedVariables false
set_option linter.unusedSimpArgs false
set_option maxRecDepth 100000
set_option maxHeartbeats 4000000
namespace Go.Abs
open Go Go.RowKit Go.Proofs
attribute [local irreducible] pK hK sK cK cP condK grdK joinK LoopK banK pairK bn un pick ld st fa fi ia ix ln cv al bd bS ap mx mk sl nc ex mi aBox aByt b36_y1 b57_l1 b61_l1 b61_y2 b62_l1 b38_y1 b38_y2 b38_y3 b38_l4 b38_y5
noncomputable def F_words_Hex (a0 : Int) : Option (List UInt8) :=
((F_strconv_FormatUint a0 16).bind fun r1 =>
(if ck (16 - (r1.length : Int)) then
((F_strings_Repeat [48] (16 - (r1.length : Int))).bind fun r2 =>
(if r2.length + r1.length ≤ 1073741824 then
some ((r2 ++ r1))
else none))
else none))
theorem F_words_Hex_ok {a0 : Int} {r : (List UInt8)} (h : F_words_Hex a0 = some r) : APure sys0 59 [(.v (.int .u64 a0))] (T r) := by
  refine APure.of_call sys_P (by kernel_rfl) (w59 (.v (.int .u64 a0)) _ _ ?_)
  have hR : ∀ q, r = q → ∀ v H, Fz (fun _ => True) H v (T q) → Fz (fun _ => True) H v (T r) := fun q e v H hv => by subst e; exact hv
  unfold F_words_Hex at h
  unfold b59
  repeat' (first
    | refine sLnS ?_
    | refine qSub h (fun hb h => ?_)
    | refine qAddS h (fun h => ?_)
    | (refine qC h (fun r hr => F_strconv_FormatUint_ok hr) ?_ (fun r hr h => ?_); (focus (repeat' (first | exact Fz.nil | (refine fz_eq rfl ?_; (focus (simp [pure_eE]; done))) | refine fz_tup ?_ | refine fz_agg ?_ | refine FzL.cons ?_ ?_ | exact FzL.nil | fail))))
    | (refine qC h (fun r hr => F_strings_Repeat_ok hr) ?_ (fun r hr h => ?_); (focus (repeat' (first | exact Fz.nil | (refine fz_eq rfl ?_; (focus (simp [pure_eE]; done))) | refine fz_tup ?_ | refine fz_agg ?_ | refine FzL.cons ?_ ?_ | exact FzL.nil | fail))))
    | (cases h; refine hR _ rfl _ _ ?_; (focus (repeat' (first | exact Fz.nil | (refine fz_eq rfl ?_; (focus (simp [pure_eE]; done))) | refine fz_tup ?_ | refine fz_agg ?_ | refine FzL.cons ?_ ?_ | exact FzL.nil | fail))))
    | fail)

noncomputable def F_trace_line_y1 (l8 : (List (List UInt8))) : Option (List UInt8) :=
((F_strings_Join l8 [32]).bind fun r10 =>
some (r10))
theorem F_trace_line_y1_ok {K : AV → Heap → Prop} {l8 : (List (List UInt8))} {y : (List UInt8)} (h : F_trace_line_y1 l8 = some y) (hR : ∀ q, y = q → ∀ v H, Fz (fun _ => True) H v (T q) → K v H) {H : Heap} {o9 : AV} (ho9 : OwnS H [10] cT 1 9 l8 o9) : b36_y1 K [o9] H := by
  rcases ho9 with ⟨rfl, rfl⟩ | ⟨do9, vo9, mo9, rfl, go9⟩
  all_goals try (simp only [List.mem_cons, List.not_mem_nil, or_false] at mo9; subst mo9)
  all_goals first | (obtain ⟨H, rfl⟩ := objs1 go9) | skip
  all_goals unfold F_trace_line_y1 at h
  all_goals unfold b36_y1
  all_goals simp only [List.getD_cons_zero, List.getD_cons_succ]
  all_goals (repeat' (first
    | (refine qCv h (fun r hr => F_strings_Join_ok hr) ?_ ?_ (fun r hr h => ?_); (focus (repeat' (first | exact Fz.nil | exact fz_own rfl (fun _ => rfl) pure_cT | (refine fz_eq rfl ?_; (focus (simp [pure_eE]; done))) | refine fz_tup ?_ | refine fz_agg ?_ | refine FzL.cons ?_ ?_ | exact FzL.nil | fail))); (focus (intro r; simp; done)))
    | (cases h; refine hR _ rfl _ _ ?_; (focus (repeat' (first | exact Fz.nil | exact fz_own rfl (fun _ => rfl) pure_cT | (refine fz_eq rfl ?_; (focus (simp [pure_eE]; done))) | refine fz_tup ?_ | refine fz_agg ?_ | refine FzL.cons ?_ ?_ | exact FzL.nil | fail))))
    | fail))

noncomputable def F_trace_line (a0 : S_Told) : Option (List UInt8) :=
((F_words_Digits a0.At).bind fun r1 =>
((F_trace_verb a0.Kind).bind fun r2 =>
(if a0.Kind = 6 then
((F_words_Digits a0.Why).bind fun r3 =>
(if [r1, r2].length + ([r3] : List (List UInt8)).length ≤ 1073741824 then
F_trace_line_y1 ([r1, r2] ++ [r3])
else none))
else
(if a0.Kind = 7 then
((F_words_Hex a0.Digest).bind fun r4 =>
(if [r1, r2].length + ([r4] : List (List UInt8)).length ≤ 1073741824 then
F_trace_line_y1 ([r1, r2] ++ [r4])
else none))
else
((F_words_Digits a0.ID).bind fun r5 =>
(if [r1, r2].length + ([r5, a0.Level] : List (List UInt8)).length ≤ 1073741824 then
(if a0.Kind = 1 then
((F_words_Digits a0.Seats).bind fun r6 =>
(if ([r1, r2] ++ [r5, a0.Level]).length + ([r6] : List (List UInt8)).length ≤ 1073741824 then
F_trace_line_y1 (([r1, r2] ++ [r5, a0.Level]) ++ [r6])
else none))
else
(if a0.Kind = 2 then
((F_words_Digits a0.Why).bind fun r7 =>
(if ([r1, r2] ++ [r5, a0.Level]).length + ([r7] : List (List UInt8)).length ≤ 1073741824 then
F_trace_line_y1 (([r1, r2] ++ [r5, a0.Level]) ++ [r7])
else none))
else
F_trace_line_y1 ([r1, r2] ++ [r5, a0.Level])))
else none))))))
theorem F_trace_line_ok {a0 : S_Told} {r : (List UInt8)} (h : F_trace_line a0 = some r) : APure sys0 36 [(.agg (c_Told a0))] (T r) := by
  refine APure.of_call sys_P (by kernel_rfl) (w36 (.agg (c_Told a0)) _ _ ?_)
  have hR : ∀ q, r = q → ∀ v H, Fz (fun _ => True) H v (T q) → Fz (fun _ => True) H v (T r) := fun q e v H hv => by subst e; exact hv
  unfold F_trace_line at h
  unfold b36
  repeat' (first
    | refine qEql h (fun hb h => ?_) (fun hb h => ?_)
    | refine wCt ?_
    | refine wCf ?_
    | refine sBoxA ?_
    | (refine sFaP ?_ ?_; (focus (repeat (first | exact cur_same | assumption | refine cur_ne (by decide) ?_))))
    | (refine sLdP1 ?_ rfl ?_; (focus (repeat (first | exact cur_same | assumption | refine cur_ne (by decide) ?_))))
    | (refine qC h (fun r hr => F_words_Digits_ok hr) ?_ (fun r hr h => ?_); (focus (repeat' (first | exact Fz.nil | (refine fz_eq rfl ?_; (focus (simp [pure_eE]; done))) | refine fz_tup ?_ | refine fz_agg ?_ | refine FzL.cons ?_ ?_ | exact FzL.nil | fail))))
    | (refine qC h (fun r hr => F_words_Hex_ok hr) ?_ (fun r hr h => ?_); (focus (repeat' (first | exact Fz.nil | (refine fz_eq rfl ?_; (focus (simp [pure_eE]; done))) | refine fz_tup ?_ | refine fz_agg ?_ | refine FzL.cons ?_ ?_ | exact FzL.nil | fail))))
    | (refine qP h (fun r hr => F_trace_verb_ok hr) ?_ (fun r hr h => ?_); (focus (simp; done)))
    | (refine qP h (fun r hr => F_words_Digits_ok hr) ?_ (fun r hr h => ?_); (focus (simp; done)))
    | exact F_trace_line_y1_ok h hR (by first | exact .inl ⟨rfl, rfl⟩ | exact .inr ⟨_, _, by simp, rfl, rfl⟩ | exact .inr rfl)
    | refine qApOO (c := cT) h (fun _ => rfl) leaf_cT rfl rfl (fun h => ?_)
    | refine sBS rfl ?_
    | refine joinK_in ?_
    | fail)

noncomputable def F_words_plain (a0 : Int) : Option Bool :=
(if 97 ≤ a0 then
(if a0 ≤ 122 then
some (true)
else
(if 48 ≤ a0 then
(if a0 ≤ 57 then
some (true)
else
some (false))
else
some (false)))
else
(if 48 ≤ a0 then
(if a0 ≤ 57 then
some (true)
else
some (false))
else
some (false)))
theorem F_words_plain_ok {a0 : Int} {r : Bool} (h : F_words_plain a0 = some r) : APure sys0 76 [(.v (.int .u8 a0))] (B r) := by
  refine APure.of_call sys_P (by kernel_rfl) (w76 (.v (.int .u8 a0)) _ _ ?_)
  have hR : ∀ q, r = q → ∀ v H, Fz (fun _ => True) H v (B q) → Fz (fun _ => True) H v (B r) := fun q e v H hv => by subst e; exact hv
  unfold F_words_plain at h
  unfold b76
  repeat' (first
    | refine qLeq h (fun hb h => ?_) (fun hb h => ?_)
    | refine qGeq h (fun hb h => ?_) (fun hb h => ?_)
    | refine wGt ?_
    | refine wGf ?_
    | refine wGn ?_
    | refine wGm ?_
    | refine wGu ?_
    | refine sPt ?_
    | refine sPf ?_
    | (cases h; refine hR _ rfl _ _ ?_; (focus (repeat' (first | exact Fz.nil | (refine fz_eq rfl ?_; (focus (simp [pure_eE]; done))) | refine fz_tup ?_ | refine fz_agg ?_ | refine FzL.cons ?_ ?_ | exact FzL.nil | fail))))
    | fail)

def F_words_Name_I1 (x3 : (List UInt8)) (x4 : Int) (s : Int) (vs : List AV) (H : Heap) : Prop := match s with
  | x5 => vs = [(T x3), (I x4), (I x5)]
noncomputable def F_words_Name_l1 (x3 : (List UInt8)) (x4 : Int) (s : Int) : Option (Int ⊕ Bool) := match s with
  | x5 =>
    (if x5 < x4 then
    ((atI x3 x5).bind fun c6 =>
    ((F_words_plain (c6.toNat : Int)).bind fun c7 => if c7 = true then
    (if ck (x5 + 1) then
    some (.inl (x5 + 1))
    else none)
    else
    ((atI x3 x5).bind fun c8 =>
    (if (c8.toNat : Int) = 45 then
    (if ck (x5 + 1) then
    some (.inl (x5 + 1))
    else none)
    else
    some (.inr (false))))))
    else
    some (.inr (true)))
theorem F_words_Name_l1_ok {K : AV → Heap → Prop} {x3 : (List UInt8)} {x4 : Int} {s : Int} {y : Bool} (h : iterO (F_words_Name_l1 x3 x4) s = some y) (hR : ∀ q, y = q → ∀ v H, Fz (fun _ => True) H v (B q) → K v H) {vs : List AV} {H : Heap} (hI : F_words_Name_I1 x3 x4 s vs H) : LoopK (b57_l1 K) vs H := by
  refine LoopK_iter (R := F_words_Name_I1 x3 x4) (fun s y2 vs H k1 h hI hJ1 hr => ?_) h hI
  have hR := fun q e => hR q (hr _ e).symm
  revert h hI hJ1; generalize s = x5; intro h hI hJ1
  obtain rfl := hI
  unfold F_words_Name_l1 at h
  simp only at h
  unfold b57_l1
  simp only [List.getD_cons_zero, List.getD_cons_succ]
  repeat' (first
    | refine qLss h (fun hb h => ?_) (fun hb h => ?_)
    | refine qNeq h (fun hb h => ?_) (fun hb h => ?_)
    | refine wCt ?_
    | refine wCf ?_
    | refine wGt ?_
    | refine wGf ?_
    | refine wGn ?_
    | refine wGm ?_
    | refine wGu ?_
    | refine sPt ?_
    | refine sPf ?_
    | refine sNt ?_
    | refine sNf ?_
    | refine qAdd h (fun hb h => ?_)
    | refine qIxS h (fun c hc h => ?_)
    | (refine qCB h (fun r hr => F_words_plain_ok hr) ?_ (fun hr h => ?_) (fun hr h => ?_); (focus (repeat' (first | exact Fz.nil | (refine fz_eq rfl ?_; (focus (simp [pure_eE]; done))) | refine fz_tup ?_ | refine fz_agg ?_ | refine FzL.cons ?_ ?_ | exact FzL.nil | fail))))
    | (cases h; exact hJ1 _ _ _ rfl rfl)
    | (cases h; refine hR _ rfl _ _ ?_; (focus (repeat' (first | exact Fz.nil | (refine fz_eq rfl ?_; (focus (simp [pure_eE]; done))) | refine fz_tup ?_ | refine fz_agg ?_ | refine FzL.cons ?_ ?_ | exact FzL.nil | fail))))
    | fail)

noncomputable def F_words_Name (a0 : (List UInt8)) : Option Bool :=
(if a0 = [] then
some (false)
else
(if 32 < (a0.length : Int) then
some (false)
else
((atI a0 0).bind fun c1 =>
(if (c1.toNat : Int) < 97 then
some (false)
else
((atI a0 0).bind fun c2 =>
(if 122 < (c2.toNat : Int) then
some (false)
else
iterO (F_words_Name_l1 a0 (a0.length : Int)) 0))))))
theorem F_words_Name_ok {a0 : (List UInt8)} {r : Bool} (h : F_words_Name a0 = some r) : APure sys0 57 [(T a0)] (B r) := by
  refine APure.of_call sys_P (by kernel_rfl) (w57 (T a0) _ _ ?_)
  have hR : ∀ q, r = q → ∀ v H, Fz (fun _ => True) H v (B q) → Fz (fun _ => True) H v (B r) := fun q e v H hv => by subst e; exact hv
  unfold F_words_Name at h
  unfold b57
  repeat' (first
    | refine qLss h (fun hb h => ?_) (fun hb h => ?_)
    | refine qGtr h (fun hb h => ?_) (fun hb h => ?_)
    | refine qEqS h (fun hb h => ?_) (fun hb h => ?_)
    | refine wCt ?_
    | refine wCf ?_
    | refine wGt ?_
    | refine wGf ?_
    | refine wGn ?_
    | refine wGm ?_
    | refine wGu ?_
    | refine sPt ?_
    | refine sPf ?_
    | refine sLnS ?_
    | refine qIxS h (fun c hc h => ?_)
    | exact F_words_Name_l1_ok h hR rfl
    | (cases h; refine hR _ rfl _ _ ?_; (focus (repeat' (first | exact Fz.nil | (refine fz_eq rfl ?_; (focus (simp [pure_eE]; done))) | refine fz_tup ?_ | refine fz_agg ?_ | refine FzL.cons ?_ ?_ | exact FzL.nil | fail))))
    | fail)

def F_words_Number_I1 (x5 : (List UInt8)) (x6 : Int) (x7 : Int) (x9 : Int) (s : (Int × Int)) (vs : List AV) (H : Heap) : Prop := match s with
  | (x8, x10) => vs = [(T x5), (I x6), (I x7), (I x8), (I x9), (I x10)]
noncomputable def F_words_Number_l1 (x5 : (List UInt8)) (x6 : Int) (x7 : Int) (x9 : Int) (s : (Int × Int)) : Option ((Int × Int) ⊕ (Int × Bool)) := match s with
  | (x8, x10) =>
    (if x10 < x9 then
    ((atI x5 x10).bind fun c11 =>
    (if (c11.toNat : Int) < 48 then
    some (.inr ((0, false)))
    else
    ((atI x5 x10).bind fun c12 =>
    (if 57 < (c12.toNat : Int) then
    some (.inr ((0, false)))
    else
    (if ck (10 * x8) then
    ((atI x5 x10).bind fun c13 =>
    (if ck (IntKind.u8.wrap ((c13.toNat : Int) - 48)) then
    (if ck ((10 * x8) + (IntKind.u8.wrap ((c13.toNat : Int) - 48))) then
    (if ck (x10 + 1) then
    some (.inl (((10 * x8) + (IntKind.u8.wrap ((c13.toNat : Int) - 48))), (x10 + 1)))
    else none)
    else none)
    else none))
    else none)))))
    else
    (if x8 < x6 then
    some (.inr ((0, false)))
    else
    (if x7 < x8 then
    some (.inr ((0, false)))
    else
    some (.inr ((x8, true))))))
theorem F_words_Number_l1_ok {K : AV → Heap → Prop} {x5 : (List UInt8)} {x6 : Int} {x7 : Int} {x9 : Int} {s : (Int × Int)} {y : (Int × Bool)} (h : iterO (F_words_Number_l1 x5 x6 x7 x9) s = some y) (hR : ∀ q, y = q → ∀ v H, Fz (fun _ => True) H v (.tuple [(I q.1), (B q.2)]) → K v H) {vs : List AV} {H : Heap} (hI : F_words_Number_I1 x5 x6 x7 x9 s vs H) : LoopK (b61_l1 K) vs H := by
  refine LoopK_iter (R := F_words_Number_I1 x5 x6 x7 x9) (fun s y2 vs H k2 h hI hJ1 hr => ?_) h hI
  have hR := fun q e => hR q (hr _ e).symm
  obtain ⟨x8, x10⟩ := s
  obtain rfl := hI
  unfold F_words_Number_l1 at h
  simp only at h
  unfold b61_l1
  simp only [List.getD_cons_zero, List.getD_cons_succ]
  repeat' (first
    | refine qLss h (fun hb h => ?_) (fun hb h => ?_)
    | refine qGtr h (fun hb h => ?_) (fun hb h => ?_)
    | refine wCt ?_
    | refine wCf ?_
    | refine wGt ?_
    | refine wGf ?_
    | refine wGn ?_
    | refine wGm ?_
    | refine wGu ?_
    | refine sPt ?_
    | refine sPf ?_
    | refine sSub ?_
    | refine qAdd h (fun hb h => ?_)
    | refine qMul h (fun hb h => ?_)
    | refine qCvI h (fun hb h => ?_)
    | refine qIxS h (fun c hc h => ?_)
    | (cases h; exact hJ1 _ _ _ rfl rfl)
    | (cases h; refine hR _ rfl _ _ ?_; (focus (repeat' (first | exact Fz.nil | (refine fz_eq rfl ?_; (focus (simp [pure_eE]; done))) | refine fz_tup ?_ | refine fz_agg ?_ | refine FzL.cons ?_ ?_ | exact FzL.nil | fail))))
    | fail)

noncomputable def F_words_Number_y2 (x2 : (List UInt8)) (x3 : Int) (x4 : Int) : Option (Int × Bool) :=
iterO (F_words_Number_l1 x2 x3 x4 (x2.length : Int)) (0, 0)
theorem F_words_Number_y2_ok {K : AV → Heap → Prop} {x2 : (List UInt8)} {x3 : Int} {x4 : Int} {y : (Int × Bool)} (h : F_words_Number_y2 x2 x3 x4 = some y) (hR : ∀ q, y = q → ∀ v H, Fz (fun _ => True) H v (.tuple [(I q.1), (B q.2)]) → K v H) {H : Heap} : b61_y2 K [(T x2), (I x3), (I x4)] H := by
  unfold F_words_Number_y2 at h
  unfold b61_y2
  simp only [List.getD_cons_zero, List.getD_cons_succ]
  repeat' (first
    | refine sLnS ?_
    | exact F_words_Number_l1_ok h hR rfl
    | fail)

noncomputable def F_words_Number (a0 : (List UInt8)) (a1 : Int) (a2 : Int) : Option (Int × Bool) :=
(if (a0.length : Int) < 1 then
some ((0, false))
else
(if 9 < (a0.length : Int) then
some ((0, false))
else
(if 1 < (a0.length : Int) then
((atI a0 0).bind fun c1 =>
(if (c1.toNat : Int) = 48 then
some ((0, false))
else
F_words_Number_y2 a0 a1 a2))
else
F_words_Number_y2 a0 a1 a2)))
theorem F_words_Number_ok {a0 : (List UInt8)} {a1 : Int} {a2 : Int} {r : (Int × Bool)} (h : F_words_Number a0 a1 a2 = some r) : APure sys0 61 [(T a0), (I a1), (I a2)] (.tuple [(I r.1), (B r.2)]) := by
  refine APure.of_call sys_P (by kernel_rfl) (w61 (T a0) (I a1) (I a2) _ _ ?_)
  have hR : ∀ q, r = q → ∀ v H, Fz (fun _ => True) H v (.tuple [(I q.1), (B q.2)]) → Fz (fun _ => True) H v (.tuple [(I r.1), (B r.2)]) := fun q e v H hv => by subst e; exact hv
  unfold F_words_Number at h
  unfold b61
  repeat' (first
    | refine qLss h (fun hb h => ?_) (fun hb h => ?_)
    | refine qGtr h (fun hb h => ?_) (fun hb h => ?_)
    | refine qEql h (fun hb h => ?_) (fun hb h => ?_)
    | refine wCt ?_
    | refine wCf ?_
    | refine wGt ?_
    | refine wGf ?_
    | refine wGn ?_
    | refine wGm ?_
    | refine wGu ?_
    | refine sPt ?_
    | refine sPf ?_
    | refine sLnS ?_
    | refine qIxS h (fun c hc h => ?_)
    | exact F_words_Number_y2_ok h hR
    | refine joinK_in ?_
    | (cases h; refine hR _ rfl _ _ ?_; (focus (repeat' (first | exact Fz.nil | (refine fz_eq rfl ?_; (focus (simp [pure_eE]; done))) | refine fz_tup ?_ | refine fz_agg ?_ | refine FzL.cons ?_ ?_ | exact FzL.nil | fail))))
    | fail)

def F_words_Unhex_I1 (x1 : (List UInt8)) (x3 : Int) (s : (Int × Int)) (vs : List AV) (H : Heap) : Prop := match s with
  | (x2, x4) => vs = [(T x1), (.v (.int .u64 x2)), (I x3), (I x4)]
noncomputable def F_words_Unhex_l1 (x1 : (List UInt8)) (x3 : Int) (s : (Int × Int)) : Option ((Int × Int) ⊕ (Int × Bool)) := match s with
  | (x2, x4) =>
    (if x4 < x3 then
    ((atI x1 x4).bind fun c5 =>
    ((F_strings_IndexByte [48, 49, 50, 51, 52, 53, 54, 55, 56, 57, 97, 98, 99, 100, 101, 102] (c5.toNat : Int)).bind fun r6 =>
    (if r6 < 0 then
    some (.inr ((0, false)))
    else
    (if ck (x4 + 1) then
    some (.inl ((IntKind.u64.wrap ((BitVec.ofInt IntKind.u64.bits (IntKind.u64.wrap (x2 * 2 ^ (min ((4 : Int)).toNat IntKind.u64.bits))) ||| BitVec.ofInt IntKind.u64.bits (IntKind.u64.wrap r6)).toNat : Int)), (x4 + 1)))
    else none))))
    else
    some (.inr ((x2, true))))
theorem F_words_Unhex_l1_ok {K : AV → Heap → Prop} {x1 : (List UInt8)} {x3 : Int} {s : (Int × Int)} {y : (Int × Bool)} (h : iterO (F_words_Unhex_l1 x1 x3) s = some y) (hR : ∀ q, y = q → ∀ v H, Fz (fun _ => True) H v (.tuple [(.v (.int .u64 q.1)), (B q.2)]) → K v H) {vs : List AV} {H : Heap} (hI : F_words_Unhex_I1 x1 x3 s vs H) : LoopK (b62_l1 K) vs H := by
  refine LoopK_iter (R := F_words_Unhex_I1 x1 x3) (fun s y2 vs H k1 h hI hJ1 hr => ?_) h hI
  have hR := fun q e => hR q (hr _ e).symm
  obtain ⟨x2, x4⟩ := s
  obtain rfl := hI
  unfold F_words_Unhex_l1 at h
  simp only at h
  unfold b62_l1
  simp only [List.getD_cons_zero, List.getD_cons_succ]
  repeat' (first
    | refine qLss h (fun hb h => ?_) (fun hb h => ?_)
    | refine wCt ?_
    | refine wCf ?_
    | refine sCv ?_
    | refine qAdd h (fun hb h => ?_)
    | refine sShl (by decide) ?_
    | refine sShr (by decide) ?_
    | refine sAnd ?_
    | refine sOr ?_
    | refine sXor ?_
    | refine qIxS h (fun c hc h => ?_)
    | (refine qC h (fun r hr => F_strings_IndexByte_ok hr) ?_ (fun r hr h => ?_); (focus (repeat' (first | exact Fz.nil | (refine fz_eq rfl ?_; (focus (simp [pure_eE]; done))) | refine fz_tup ?_ | refine fz_agg ?_ | refine FzL.cons ?_ ?_ | exact FzL.nil | fail))))
    | (cases h; exact hJ1 _ _ _ rfl rfl)
    | (cases h; refine hR _ rfl _ _ ?_; (focus (repeat' (first | exact Fz.nil | (refine fz_eq rfl ?_; (focus (simp [pure_eE]; done))) | refine fz_tup ?_ | refine fz_agg ?_ | refine FzL.cons ?_ ?_ | exact FzL.nil | fail))))
    | fail)

noncomputable def F_words_Unhex (a0 : (List UInt8)) : Option (Int × Bool) :=
(if (a0.length : Int) = 16 then
iterO (F_words_Unhex_l1 a0 (a0.length : Int)) (0, 0)
else
some ((0, false)))
theorem F_words_Unhex_ok {a0 : (List UInt8)} {r : (Int × Bool)} (h : F_words_Unhex a0 = some r) : APure sys0 62 [(T a0)] (.tuple [(.v (.int .u64 r.1)), (B r.2)]) := by
  refine APure.of_call sys_P (by kernel_rfl) (w62 (T a0) _ _ ?_)
  have hR : ∀ q, r = q → ∀ v H, Fz (fun _ => True) H v (.tuple [(.v (.int .u64 q.1)), (B q.2)]) → Fz (fun _ => True) H v (.tuple [(.v (.int .u64 r.1)), (B r.2)]) := fun q e v H hv => by subst e; exact hv
  unfold F_words_Unhex at h
  unfold b62
  repeat' (first
    | refine qNeq h (fun hb h => ?_) (fun hb h => ?_)
    | refine wCt ?_
    | refine wCf ?_
    | refine sLnS ?_
    | exact F_words_Unhex_l1_ok h hR rfl
    | (cases h; refine hR _ rfl _ _ ?_; (focus (repeat' (first | exact Fz.nil | (refine fz_eq rfl ?_; (focus (simp [pure_eE]; done))) | refine fz_tup ?_ | refine fz_agg ?_ | refine FzL.cons ?_ ?_ | exact FzL.nil | fail))))
    | fail)

def F_trace_parsed_I4 (v2 : Nat) (v4 : Nat) (s : ((List (List UInt8)) × Bool × Int × Int × Int × Int × (List UInt8) × Int × Int × Int × Int × Int × Int × (List UInt8) × Int × Int × Int)) (vs : List AV) (H : Heap) : Prop := match s with
  | (x6, b7, x8, x9, x10, x11, x12, x13, x14, x15, x16, x17, x18, x19, x20, x21, x22) => vs = [(.ro (List.map cT x6)), (.ptr 2 v2 0), (.ptr 4 v4 0), (B b7), (B false), (I x8)] ∧ H 2 = ⟨v2, true, [(I x9), (I x10), (I x11), (T x12), (I x13), (I x14), (.v (.int .u64 x15))], 31⟩ ∧ H 4 = ⟨v4, true, [(I x16), (I x17), (I x18), (T x19), (I x20), (I x21), (.v (.int .u64 x22))], 31⟩
noncomputable def F_trace_parsed_y1 (x25 : (List (List UInt8))) (b26 : Bool) (x27 : Int) (x28 : Int) (x29 : Int) (x30 : Int) (x31 : (List UInt8)) (x32 : Int) (x33 : Int) (x34 : Int) (x35 : Int) (x36 : Int) (x37 : Int) (x38 : (List UInt8)) (x39 : Int) (x40 : Int) (x41 : Int) : Option (((List (List UInt8)) × Bool × Int × Int × Int × Int × (List UInt8) × Int × Int × Int × Int × Int × Int × (List UInt8) × Int × Int × Int) ⊕ (S_Told × Bool)) :=
(if ck (x27 + 1) then
some (.inl (x25, b26, (x27 + 1), x28, x29, x30, x31, x32, x33, x34, x35, x36, x37, x38, x39, x40, x41))
else none)
theorem F_trace_parsed_y1_ok {K : AV → Heap → Prop} {k2 : List AV → Heap → Prop} {x25 : (List (List UInt8))} {b26 : Bool} {x27 : Int} {x28 : Int} {x29 : Int} {x30 : Int} {x31 : (List UInt8)} {x32 : Int} {x33 : Int} {x34 : Int} {x35 : Int} {x36 : Int} {x37 : Int} {x38 : (List UInt8)} {x39 : Int} {x40 : Int} {x41 : Int} {y : (((List (List UInt8)) × Bool × Int × Int × Int × Int × (List UInt8) × Int × Int × Int × Int × Int × Int × (List UInt8) × Int × Int × Int) ⊕ (S_Told × Bool))} (h : F_trace_parsed_y1 x25 b26 x27 x28 x29 x30 x31 x32 x33 x34 x35 x36 x37 x38 x39 x40 x41 = some y) {v2 : Nat} {v4 : Nat} (hJ4 : ∀ s vs H, y = .inl s → F_trace_parsed_I4 v2 v4 s vs H → k2 vs H) (hR : ∀ q, y = .inr (q) → ∀ v H, Fz (fun _ => True) H v (.tuple [(.agg (c_Told q.1)), (B q.2)]) → K v H) {H : Heap} (hd2 : H 2 = ⟨v2, true, [(I x28), (I x29), (I x30), (T x31), (I x32), (I x33), (.v (.int .u64 x34))], 31⟩) (hd4 : H 4 = ⟨v4, true, [(I x35), (I x36), (I x37), (T x38), (I x39), (I x40), (.v (.int .u64 x41))], 31⟩) : b38_y1 K k2 [(.ro (List.map cT x25)), (.ptr 2 v2 0), (.ptr 4 v4 0), (B b26), (B false), (I x27)] H := by
  obtain ⟨H, rfl⟩ := objs2 hd2 hd4
  unfold F_trace_parsed_y1 at h
  unfold b38_y1
  simp only [List.getD_cons_zero, List.getD_cons_succ]
  repeat' (first
    | refine qAdd h (fun hb h => ?_)
    | (cases h; exact hJ4 _ _ _ rfl ⟨rfl, rfl, rfl⟩)
    | fail)

noncomputable def F_trace_parsed_y2 (b73 : Bool) (x74 : Int) (x75 : Int) (x76 : Int) (x77 : (List UInt8)) (x78 : Int) (x79 : Int) (x80 : Int) (x81 : Int) (x82 : Int) (x83 : Int) (x84 : (List UInt8)) (x85 : Int) (x86 : Int) (x87 : Int) : Option (((List (List UInt8)) × Bool × Int × Int × Int × Int × (List UInt8) × Int × Int × Int × Int × Int × Int × (List UInt8) × Int × Int × Int) ⊕ (S_Told × Bool)) :=
some (.inr (((⟨x81, x82, x83, x84, x85, x86, x87⟩ : S_Told), b73)))
theorem F_trace_parsed_y2_ok {K : AV → Heap → Prop} {b73 : Bool} {x74 : Int} {x75 : Int} {x76 : Int} {x77 : (List UInt8)} {x78 : Int} {x79 : Int} {x80 : Int} {x81 : Int} {x82 : Int} {x83 : Int} {x84 : (List UInt8)} {x85 : Int} {x86 : Int} {x87 : Int} {y : (((List (List UInt8)) × Bool × Int × Int × Int × Int × (List UInt8) × Int × Int × Int × Int × Int × Int × (List UInt8) × Int × Int × Int) ⊕ (S_Told × Bool))} (h : F_trace_parsed_y2 b73 x74 x75 x76 x77 x78 x79 x80 x81 x82 x83 x84 x85 x86 x87 = some y) {v2 : Nat} {v4 : Nat} (hR : ∀ q, y = .inr (q) → ∀ v H, Fz (fun _ => True) H v (.tuple [(.agg (c_Told q.1)), (B q.2)]) → K v H) {H : Heap} (hd2 : H 2 = ⟨v2, true, [(I x74), (I x75), (I x76), (T x77), (I x78), (I x79), (.v (.int .u64 x80))], 31⟩) (hd4 : H 4 = ⟨v4, true, [(I x81), (I x82), (I x83), (T x84), (I x85), (I x86), (.v (.int .u64 x87))], 31⟩) : b38_y2 K [(.ptr 2 v2 0), (.ptr 4 v4 0), (B b73)] H := by
  obtain ⟨H, rfl⟩ := objs2 hd2 hd4
  unfold F_trace_parsed_y2 at h
  unfold b38_y2
  simp only [List.getD_cons_zero, List.getD_cons_succ]
  repeat' (first
    | (refine sLdPA ?_ rfl rfl ?_; (focus (repeat (first | exact cur_same | assumption | refine cur_ne (by decide) ?_))))
    | (refine sStP ?_ rfl rfl rfl rfl ?_; (focus (repeat (first | exact cur_same | assumption | refine cur_ne (by decide) ?_))))
    | (cases h; refine hR _ rfl _ _ ?_; (focus (repeat' (first | exact Fz.nil | (refine fz_eq rfl ?_; (focus (simp [pure_eE]; done))) | refine fz_tup ?_ | refine fz_agg ?_ | refine FzL.cons ?_ ?_ | exact FzL.nil | fail))))
    | fail)

noncomputable def F_trace_parsed_y3 (x48 : (List (List UInt8))) (b49 : Bool) (x50 : Int) (x51 : Int) (x52 : Int) (x53 : (List UInt8)) (x54 : Int) (x55 : Int) (x56 : Int) (x57 : Int) (x58 : Int) (x59 : Int) (x60 : (List UInt8)) (x61 : Int) (x62 : Int) (x63 : Int) : Option (((List (List UInt8)) × Bool × Int × Int × Int × Int × (List UInt8) × Int × Int × Int × Int × Int × Int × (List UInt8) × Int × Int × Int) ⊕ (S_Told × Bool)) :=
(bif b49 then
(if (x48.length : Int) < 4 then
some (.inr (((⟨x57, x58, x59, x60, x61, x62, x63⟩ : S_Told), false)))
else
((atI x48 3).bind fun e64 =>
((F_words_Name e64).bind fun c65 => if c65 = true then
((atI x48 3).bind fun e66 =>
(if x58 = 1 then
(if (x48.length : Int) = 5 then
((atI x48 4).bind fun e67 =>
((F_words_Number e67 1 16).bind fun r68 =>
(if r68.2 = true then
F_trace_parsed_y2 true x50 x51 x52 x53 x54 x55 x56 x57 x58 x59 e66 r68.1 x62 x63
else
F_trace_parsed_y2 false x50 x51 x52 x53 x54 x55 x56 x57 x58 x59 e66 r68.1 x62 x63)))
else
(if x58 = 2 then
(if (x48.length : Int) = 5 then
((atI x48 4).bind fun e69 =>
((F_words_Number e69 1 99).bind fun r70 =>
(if r70.2 = true then
F_trace_parsed_y2 true x50 x51 x52 x53 x54 x55 x56 x57 x58 x59 e66 x61 r70.1 x63
else
F_trace_parsed_y2 false x50 x51 x52 x53 x54 x55 x56 x57 x58 x59 e66 x61 r70.1 x63)))
else
(if x58 = 1 then
F_trace_parsed_y2 false x50 x51 x52 x53 x54 x55 x56 x57 x58 x59 e66 x61 x62 x63
else
(if x58 = 2 then
F_trace_parsed_y2 false x50 x51 x52 x53 x54 x55 x56 x57 x58 x59 e66 x61 x62 x63
else
(if (x48.length : Int) = 4 then
F_trace_parsed_y2 true x50 x51 x52 x53 x54 x55 x56 x57 x58 x59 e66 x61 x62 x63
else
F_trace_parsed_y2 false x50 x51 x52 x53 x54 x55 x56 x57 x58 x59 e66 x61 x62 x63))))
else
(if x58 = 1 then
F_trace_parsed_y2 false x50 x51 x52 x53 x54 x55 x56 x57 x58 x59 e66 x61 x62 x63
else
(if x58 = 2 then
F_trace_parsed_y2 false x50 x51 x52 x53 x54 x55 x56 x57 x58 x59 e66 x61 x62 x63
else
(if (x48.length : Int) = 4 then
F_trace_parsed_y2 true x50 x51 x52 x53 x54 x55 x56 x57 x58 x59 e66 x61 x62 x63
else
F_trace_parsed_y2 false x50 x51 x52 x53 x54 x55 x56 x57 x58 x59 e66 x61 x62 x63)))))
else
(if x58 = 2 then
(if (x48.length : Int) = 5 then
((atI x48 4).bind fun e71 =>
((F_words_Number e71 1 99).bind fun r72 =>
(if r72.2 = true then
F_trace_parsed_y2 true x50 x51 x52 x53 x54 x55 x56 x57 x58 x59 e66 x61 r72.1 x63
else
F_trace_parsed_y2 false x50 x51 x52 x53 x54 x55 x56 x57 x58 x59 e66 x61 r72.1 x63)))
else
(if x58 = 1 then
F_trace_parsed_y2 false x50 x51 x52 x53 x54 x55 x56 x57 x58 x59 e66 x61 x62 x63
else
(if x58 = 2 then
F_trace_parsed_y2 false x50 x51 x52 x53 x54 x55 x56 x57 x58 x59 e66 x61 x62 x63
else
(if (x48.length : Int) = 4 then
F_trace_parsed_y2 true x50 x51 x52 x53 x54 x55 x56 x57 x58 x59 e66 x61 x62 x63
else
F_trace_parsed_y2 false x50 x51 x52 x53 x54 x55 x56 x57 x58 x59 e66 x61 x62 x63))))
else
(if x58 = 1 then
F_trace_parsed_y2 false x50 x51 x52 x53 x54 x55 x56 x57 x58 x59 e66 x61 x62 x63
else
(if x58 = 2 then
F_trace_parsed_y2 false x50 x51 x52 x53 x54 x55 x56 x57 x58 x59 e66 x61 x62 x63
else
(if (x48.length : Int) = 4 then
F_trace_parsed_y2 true x50 x51 x52 x53 x54 x55 x56 x57 x58 x59 e66 x61 x62 x63
else
F_trace_parsed_y2 false x50 x51 x52 x53 x54 x55 x56 x57 x58 x59 e66 x61 x62 x63))))))
else
some (.inr (((⟨x57, x58, x59, x60, x61, x62, x63⟩ : S_Told), false))))))
else
some (.inr (((⟨x57, x58, x59, x60, x61, x62, x63⟩ : S_Told), false))))
theorem F_trace_parsed_y3_ok {K : AV → Heap → Prop} {x48 : (List (List UInt8))} {b49 : Bool} {x50 : Int} {x51 : Int} {x52 : Int} {x53 : (List UInt8)} {x54 : Int} {x55 : Int} {x56 : Int} {x57 : Int} {x58 : Int} {x59 : Int} {x60 : (List UInt8)} {x61 : Int} {x62 : Int} {x63 : Int} {y : (((List (List UInt8)) × Bool × Int × Int × Int × Int × (List UInt8) × Int × Int × Int × Int × Int × Int × (List UInt8) × Int × Int × Int) ⊕ (S_Told × Bool))} (h : F_trace_parsed_y3 x48 b49 x50 x51 x52 x53 x54 x55 x56 x57 x58 x59 x60 x61 x62 x63 = some y) {v2 : Nat} {v4 : Nat} (hR : ∀ q, y = .inr (q) → ∀ v H, Fz (fun _ => True) H v (.tuple [(.agg (c_Told q.1)), (B q.2)]) → K v H) {H : Heap} (hd2 : H 2 = ⟨v2, true, [(I x50), (I x51), (I x52), (T x53), (I x54), (I x55), (.v (.int .u64 x56))], 31⟩) (hd4 : H 4 = ⟨v4, true, [(I x57), (I x58), (I x59), (T x60), (I x61), (I x62), (.v (.int .u64 x63))], 31⟩) : b38_y3 K [(.ro (List.map cT x48)), (.ptr 2 v2 0), (.ptr 4 v4 0), (B b49), (B false)] H := by
  obtain ⟨H, rfl⟩ := objs2 hd2 hd4
  unfold F_trace_parsed_y3 at h
  unfold b38_y3
  simp only [List.getD_cons_zero, List.getD_cons_succ]
  repeat' (first
    | refine qLss h (fun hb h => ?_) (fun hb h => ?_)
    | refine qEql h (fun hb h => ?_) (fun hb h => ?_)
    | refine qNeq h (fun hb h => ?_) (fun hb h => ?_)
    | refine wCt ?_
    | refine wCf ?_
    | refine wGt ?_
    | refine wGf ?_
    | refine wGn ?_
    | refine wGm ?_
    | refine wGu ?_
    | refine sPt ?_
    | refine sPf ?_
    | refine sNt ?_
    | refine sNf ?_
    | refine sLnM ?_
    | refine qIaR h (fun _ => rfl) (fun e he h => ?_)
    | refine qExB rfl h (fun hb h => ?_) (fun hb h => ?_)
    | refine sEx rfl ?_
    | (refine sFaP ?_ ?_; (focus (repeat (first | exact cur_same | assumption | refine cur_ne (by decide) ?_))))
    | refine sLdR1 rfl ?_
    | (refine sLdP1 ?_ rfl ?_; (focus (repeat (first | exact cur_same | assumption | refine cur_ne (by decide) ?_))))
    | (refine sLdPA ?_ rfl rfl ?_; (focus (repeat (first | exact cur_same | assumption | refine cur_ne (by decide) ?_))))
    | (refine sStP ?_ rfl rfl rfl rfl ?_; (focus (repeat (first | exact cur_same | assumption | refine cur_ne (by decide) ?_))))
    | (refine qC h (fun r hr => F_words_Number_ok hr) ?_ (fun r hr h => ?_); (focus (repeat' (first | exact Fz.nil | (refine fz_eq rfl ?_; (focus (simp [pure_eE]; done))) | refine fz_tup ?_ | refine fz_agg ?_ | refine FzL.cons ?_ ?_ | exact FzL.nil | fail))))
    | (refine qCB h (fun r hr => F_words_Name_ok hr) ?_ (fun hr h => ?_) (fun hr h => ?_); (focus (repeat' (first | exact Fz.nil | (refine fz_eq rfl ?_; (focus (simp [pure_eE]; done))) | refine fz_tup ?_ | refine fz_agg ?_ | refine FzL.cons ?_ ?_ | exact FzL.nil | fail))))
    | exact F_trace_parsed_y2_ok h hR rfl rfl
    | refine joinK_in ?_
    | (cases h; refine hR _ rfl _ _ ?_; (focus (repeat' (first | exact Fz.nil | (refine fz_eq rfl ?_; (focus (simp [pure_eE]; done))) | refine fz_tup ?_ | refine fz_agg ?_ | refine FzL.cons ?_ ?_ | exact FzL.nil | fail))))
    | (cases b49 <;> try simp only [cond_true, cond_false] at h)
    | fail)

noncomputable def F_trace_parsed_l4 (s : ((List (List UInt8)) × Bool × Int × Int × Int × Int × (List UInt8) × Int × Int × Int × Int × Int × Int × (List UInt8) × Int × Int × Int)) : Option (((List (List UInt8)) × Bool × Int × Int × Int × Int × (List UInt8) × Int × Int × Int × Int × Int × Int × (List UInt8) × Int × Int × Int) ⊕ (S_Told × Bool)) := match s with
  | (x6, b7, x8, x9, x10, x11, x12, x13, x14, x15, x16, x17, x18, x19, x20, x21, x22) =>
    (if x8 ≤ 7 then
    ((atI x6 1).bind fun e23 =>
    ((F_trace_verb x8).bind fun r24 =>
    (if e23 = r24 then
    F_trace_parsed_y1 x6 b7 x8 x9 x10 x11 x12 x13 x14 x15 x16 x8 x18 x19 x20 x21 x22
    else
    F_trace_parsed_y1 x6 b7 x8 x9 x10 x11 x12 x13 x14 x15 x16 x17 x18 x19 x20 x21 x22)))
    else
    (bif b7 then
    (if x17 = 0 then
    some (.inr (((⟨x16, x17, x18, x19, x20, x21, x22⟩ : S_Told), false)))
    else
    (if x17 = 6 then
    ((atI x6 2).bind fun e42 =>
    ((F_words_Number e42 1 99).bind fun r43 =>
    (if r43.2 = true then
    (if (x6.length : Int) = 3 then
    some (.inr (((⟨x16, x17, x18, x19, x20, r43.1, x22⟩ : S_Told), true)))
    else
    some (.inr (((⟨x16, x17, x18, x19, x20, r43.1, x22⟩ : S_Told), false))))
    else
    some (.inr (((⟨x16, x17, x18, x19, x20, r43.1, x22⟩ : S_Told), false))))))
    else
    (if x17 = 7 then
    ((atI x6 2).bind fun e44 =>
    ((F_words_Unhex e44).bind fun r45 =>
    (if r45.2 = true then
    (if (x6.length : Int) = 3 then
    some (.inr (((⟨x16, x17, x18, x19, x20, x21, r45.1⟩ : S_Told), true)))
    else
    some (.inr (((⟨x16, x17, x18, x19, x20, x21, r45.1⟩ : S_Told), false))))
    else
    some (.inr (((⟨x16, x17, x18, x19, x20, x21, r45.1⟩ : S_Told), false))))))
    else
    ((atI x6 2).bind fun e46 =>
    ((F_words_Number e46 0 999999999).bind fun r47 =>
    (if r47.2 = true then
    F_trace_parsed_y3 x6 true x9 x10 x11 x12 x13 x14 x15 x16 x17 r47.1 x19 x20 x21 x22
    else
    F_trace_parsed_y3 x6 false x9 x10 x11 x12 x13 x14 x15 x16 x17 r47.1 x19 x20 x21 x22))))))
    else
    some (.inr (((⟨x16, x17, x18, x19, x20, x21, x22⟩ : S_Told), false)))))
theorem F_trace_parsed_l4_ok {K : AV → Heap → Prop} {s : ((List (List UInt8)) × Bool × Int × Int × Int × Int × (List UInt8) × Int × Int × Int × Int × Int × Int × (List UInt8) × Int × Int × Int)} {y : (S_Told × Bool)} (h : iterO (F_trace_parsed_l4) s = some y) {v2 : Nat} {v4 : Nat} (hR : ∀ q, y = q → ∀ v H, Fz (fun _ => True) H v (.tuple [(.agg (c_Told q.1)), (B q.2)]) → K v H) {vs : List AV} {H : Heap} (hI : F_trace_parsed_I4 v2 v4 s vs H) : LoopK (b38_l4 K) vs H := by
  refine LoopK_iter (R := F_trace_parsed_I4 v2 v4) (fun s y2 vs H k2 h hI hJ4 hr => ?_) h hI
  have hR := fun q e => hR q (hr _ e).symm
  obtain ⟨x6, b7, x8, x9, x10, x11, x12, x13, x14, x15, x16, x17, x18, x19, x20, x21, x22⟩ := s
  obtain ⟨rfl, hd2, hd4⟩ := hI
  obtain ⟨H, rfl⟩ := objs2 hd2 hd4
  unfold F_trace_parsed_l4 at h
  simp only at h
  unfold b38_l4
  simp only [List.getD_cons_zero, List.getD_cons_succ]
  repeat' (first
    | refine qLeq h (fun hb h => ?_) (fun hb h => ?_)
    | refine qEql h (fun hb h => ?_) (fun hb h => ?_)
    | refine qEqS h (fun hb h => ?_) (fun hb h => ?_)
    | refine wCt ?_
    | refine wCf ?_
    | refine wGt ?_
    | refine wGf ?_
    | refine wGn ?_
    | refine wGm ?_
    | refine wGu ?_
    | refine sPt ?_
    | refine sPf ?_
    | refine sNt ?_
    | refine sNf ?_
    | refine sLnM ?_
    | refine qIaR h (fun _ => rfl) (fun e he h => ?_)
    | refine qExB rfl h (fun hb h => ?_) (fun hb h => ?_)
    | refine sEx rfl ?_
    | (refine sFaP ?_ ?_; (focus (repeat (first | exact cur_same | assumption | refine cur_ne (by decide) ?_))))
    | refine sLdR1 rfl ?_
    | (refine sLdP1 ?_ rfl ?_; (focus (repeat (first | exact cur_same | assumption | refine cur_ne (by decide) ?_))))
    | (refine sLdPA ?_ rfl rfl ?_; (focus (repeat (first | exact cur_same | assumption | refine cur_ne (by decide) ?_))))
    | (refine sStP ?_ rfl rfl rfl rfl ?_; (focus (repeat (first | exact cur_same | assumption | refine cur_ne (by decide) ?_))))
    | (refine qC h (fun r hr => F_words_Number_ok hr) ?_ (fun r hr h => ?_); (focus (repeat' (first | exact Fz.nil | (refine fz_eq rfl ?_; (focus (simp [pure_eE]; done))) | refine fz_tup ?_ | refine fz_agg ?_ | refine FzL.cons ?_ ?_ | exact FzL.nil | fail))))
    | (refine qC h (fun r hr => F_words_Unhex_ok hr) ?_ (fun r hr h => ?_); (focus (repeat' (first | exact Fz.nil | (refine fz_eq rfl ?_; (focus (simp [pure_eE]; done))) | refine fz_tup ?_ | refine fz_agg ?_ | refine FzL.cons ?_ ?_ | exact FzL.nil | fail))))
    | (refine qP h (fun r hr => F_trace_verb_ok hr) ?_ (fun r hr h => ?_); (focus (simp; done)))
    | (cases h; exact hJ4 _ _ _ rfl ⟨rfl, rfl, rfl⟩)
    | exact F_trace_parsed_y1_ok h hJ4 hR rfl rfl
    | exact F_trace_parsed_y3_ok h hR rfl rfl
    | refine joinK_in ?_
    | (cases h; refine hR _ rfl _ _ ?_; (focus (repeat' (first | exact Fz.nil | (refine fz_eq rfl ?_; (focus (simp [pure_eE]; done))) | refine fz_tup ?_ | refine fz_agg ?_ | refine FzL.cons ?_ ?_ | exact FzL.nil | fail))))
    | (cases b7 <;> try simp only [cond_true, cond_false] at h)
    | fail)

noncomputable def F_trace_parsed_y5 (x3 : (List (List UInt8))) (b4 : Bool) (x5 : Int) : Option (S_Told × Bool) :=
iterO (F_trace_parsed_l4) (x3, b4, 1, 0, 0, 0, [], 0, 0, 0, x5, 0, 0, [], 0, 0, 0)
theorem F_trace_parsed_y5_ok {K : AV → Heap → Prop} {x3 : (List (List UInt8))} {b4 : Bool} {x5 : Int} {y : (S_Told × Bool)} (h : F_trace_parsed_y5 x3 b4 x5 = some y) {v2 : Nat} {v4 : Nat} (hR : ∀ q, y = q → ∀ v H, Fz (fun _ => True) H v (.tuple [(.agg (c_Told q.1)), (B q.2)]) → K v H) {H : Heap} (hd2 : H 2 = ⟨v2, true, [(I 0), (I 0), (I 0), (T []), (I 0), (I 0), (.v (.int .u64 0))], 31⟩) (hd4 : H 4 = ⟨v4, true, [(I x5), (I 0), (I 0), (T []), (I 0), (I 0), (.v (.int .u64 0))], 31⟩) : b38_y5 K [(.ro (List.map cT x3)), (.ptr 2 v2 0), (.ptr 4 v4 0), (B b4), (B false)] H := by
  obtain ⟨H, rfl⟩ := objs2 hd2 hd4
  unfold F_trace_parsed_y5 at h
  unfold b38_y5
  simp only [List.getD_cons_zero, List.getD_cons_succ]
  repeat' (first
    | exact F_trace_parsed_l4_ok h hR ⟨rfl, rfl, rfl⟩
    | fail)

noncomputable def F_trace_parsed (a0 : (List (List UInt8))) : Option (S_Told × Bool) :=
(if (a0.length : Int) < 3 then
some (((⟨0, 0, 0, [], 0, 0, 0⟩ : S_Told), false))
else
((atI a0 0).bind fun e1 =>
((F_words_Number e1 0 999999999).bind fun r2 =>
(if r2.2 = true then
F_trace_parsed_y5 a0 true r2.1
else
F_trace_parsed_y5 a0 false r2.1))))
theorem F_trace_parsed_ok {a0 : (List (List UInt8))} {r : (S_Told × Bool)} (h : F_trace_parsed a0 = some r) : APure sys0 38 [(.ro (List.map cT a0))] (.tuple [(.agg (c_Told r.1)), (B r.2)]) := by
  refine APure.of_call sys_P (by kernel_rfl) (w38 (.ro (List.map cT a0)) _ _ ?_)
  have hR : ∀ q, r = q → ∀ v H, Fz (fun _ => True) H v (.tuple [(.agg (c_Told q.1)), (B q.2)]) → Fz (fun _ => True) H v (.tuple [(.agg (c_Told r.1)), (B r.2)]) := fun q e v H hv => by subst e; exact hv
  unfold F_trace_parsed at h
  unfold b38
  repeat' (first
    | refine qLss h (fun hb h => ?_) (fun hb h => ?_)
    | refine wCt ?_
    | refine wCf ?_
    | refine sLnM ?_
    | refine sAl ?_
    | refine qIaR h (fun _ => rfl) (fun e he h => ?_)
    | refine qExB rfl h (fun hb h => ?_) (fun hb h => ?_)
    | refine sEx rfl ?_
    | (refine sFaP ?_ ?_; (focus (repeat (first | exact cur_same | assumption | refine cur_ne (by decide) ?_))))
    | refine sLdR1 rfl ?_
    | (refine sLdPA ?_ rfl rfl ?_; (focus (repeat (first | exact cur_same | assumption | refine cur_ne (by decide) ?_))))
    | (refine sStP ?_ rfl rfl rfl rfl ?_; (focus (repeat (first | exact cur_same | assumption | refine cur_ne (by decide) ?_))))
    | refine sBd rfl ?_
    | (refine qC h (fun r hr => F_words_Number_ok hr) ?_ (fun r hr h => ?_); (focus (repeat' (first | exact Fz.nil | (refine fz_eq rfl ?_; (focus (simp [pure_eE]; done))) | refine fz_tup ?_ | refine fz_agg ?_ | refine FzL.cons ?_ ?_ | exact FzL.nil | fail))))
    | exact F_trace_parsed_y5_ok h hR rfl rfl
    | refine joinK_in ?_
    | (cases h; refine hR _ rfl _ _ ?_; (focus (repeat' (first | exact Fz.nil | (refine fz_eq rfl ?_; (focus (simp [pure_eE]; done))) | refine fz_tup ?_ | refine fz_agg ?_ | refine FzL.cons ?_ ?_ | exact FzL.nil | fail))))
    | fail)

noncomputable def F_trace_Read (a0 : (List UInt8)) : Option (S_Told × Int) :=
((F_words_Words a0).bind fun r1 =>
((F_trace_parsed r1).bind fun r2 =>
(if r2.2 = true then
((F_trace_line r2.1).bind fun r3 =>
(if r3 = a0 then
some ((r2.1, 0))
else
some (((⟨0, 0, 0, [], 0, 0, 0⟩ : S_Told), 2))))
else
some (((⟨0, 0, 0, [], 0, 0, 0⟩ : S_Told), 2)))))
theorem F_trace_Read_ok {a0 : (List UInt8)} {r : (S_Told × Int)} (h : F_trace_Read a0 = some r) : APure sys0 18 [(T a0)] (.tuple [(.agg (c_Told r.1)), (I r.2)]) := by
  refine APure.of_call sys_P (by kernel_rfl) (w18 (T a0) _ _ ?_)
  have hR : ∀ q, r = q → ∀ v H, Fz (fun _ => True) H v (.tuple [(.agg (c_Told q.1)), (I q.2)]) → Fz (fun _ => True) H v (.tuple [(.agg (c_Told r.1)), (I r.2)]) := fun q e v H hv => by subst e; exact hv
  unfold F_trace_Read at h
  unfold b18
  repeat' (first
    | refine qNeS h (fun hb h => ?_) (fun hb h => ?_)
    | refine wCt ?_
    | refine wCf ?_
    | refine wGt ?_
    | refine wGf ?_
    | refine wGn ?_
    | refine wGm ?_
    | refine wGu ?_
    | refine sPt ?_
    | refine sPf ?_
    | refine sNt ?_
    | refine sNf ?_
    | refine sAl ?_
    | refine qExB rfl h (fun hb h => ?_) (fun hb h => ?_)
    | refine sEx rfl ?_
    | (refine sLdPA ?_ rfl rfl ?_; (focus (repeat (first | exact cur_same | assumption | refine cur_ne (by decide) ?_))))
    | (refine sStP ?_ rfl rfl rfl rfl ?_; (focus (repeat (first | exact cur_same | assumption | refine cur_ne (by decide) ?_))))
    | refine sBd rfl ?_
    | (refine qC h (fun r hr => F_trace_line_ok hr) ?_ (fun r hr h => ?_); (focus (repeat' (first | exact Fz.nil | (refine fz_eq rfl ?_; (focus (simp [pure_eE]; done))) | refine fz_tup ?_ | refine fz_agg ?_ | refine FzL.cons ?_ ?_ | exact FzL.nil | fail))))
    | (refine qC h (fun r hr => F_trace_parsed_ok hr) ?_ (fun r hr h => ?_); (focus (repeat' (first | exact Fz.nil | (refine fz_eq rfl ?_; (focus (simp [pure_eE]; done))) | refine fz_tup ?_ | refine fz_agg ?_ | refine FzL.cons ?_ ?_ | exact FzL.nil | fail))))
    | (refine qC h (fun r hr => F_words_Words_ok hr) ?_ (fun r hr h => ?_); (focus (repeat' (first | exact Fz.nil | (refine fz_eq rfl ?_; (focus (simp [pure_eE]; done))) | refine fz_tup ?_ | refine fz_agg ?_ | refine FzL.cons ?_ ?_ | exact FzL.nil | fail))))
    | (cases h; refine hR _ rfl _ _ ?_; (focus (repeat' (first | exact Fz.nil | (refine fz_eq rfl ?_; (focus (simp [pure_eE]; done))) | refine fz_tup ?_ | refine fz_agg ?_ | refine FzL.cons ?_ ?_ | exact FzL.nil | fail))))
    | fail)

noncomputable def F_book_phase (a0 : Int) : Option Bool :=
(if 1 ≤ a0 then
(if a0 ≤ 3 then
some (true)
else
some (false))
else
some (false))
theorem F_book_phase_ok {a0 : Int} {r : Bool} (h : F_book_phase a0 = some r) : APure sys0 63 [(I a0)] (B r) := by
  refine APure.of_call sys_P (by kernel_rfl) (w63 (I a0) _ _ ?_)
  have hR : ∀ q, r = q → ∀ v H, Fz (fun _ => True) H v (B q) → Fz (fun _ => True) H v (B r) := fun q e v H hv => by subst e; exact hv
  unfold F_book_phase at h
  unfold b63
  repeat' (first
    | refine qLeq h (fun hb h => ?_) (fun hb h => ?_)
    | refine qGeq h (fun hb h => ?_) (fun hb h => ?_)
    | refine wGt ?_
    | refine wGf ?_
    | refine wGn ?_
    | refine wGm ?_
    | refine wGu ?_
    | refine sPt ?_
    | refine sPf ?_
    | (cases h; refine hR _ rfl _ _ ?_; (focus (repeat' (first | exact Fz.nil | (refine fz_eq rfl ?_; (focus (simp [pure_eE]; done))) | refine fz_tup ?_ | refine fz_agg ?_ | refine FzL.cons ?_ ?_ | exact FzL.nil | fail))))
    | fail)

end Go.Abs
