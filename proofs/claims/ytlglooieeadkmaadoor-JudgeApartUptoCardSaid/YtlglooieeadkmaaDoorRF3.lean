import Derived.Test.YtlglooieeadkmaaDoorRB3
import Derived.Test.YtlglooieeadkmaaDoorRB4
import Derived.Test.YtlglooieeadkmaaDoorRML
import Derived.Test.YtlglooieeadkmaaDoorRF1
import Derived.Test.YtlglooieeadkmaaDoorRMH
import Derived.Test.YtlglooieeadkmaaDoorRF2
import Derived.Test.YtlglooieeadkmaaDoorRMBk
set_option linter.unusedVariables false
set_option linter.unusedSimpArgs false
set_option maxRecDepth 100000
set_option maxHeartbeats 4000000
namespace Go.Abs
open Go Go.RowKit Go.Proofs
attribute [local irreducible] pK hK sK cK cP condK grdK joinK LoopK banK pairK bn un pick ld st fa fi ia ix ln cv al bd bS ap mx mk sl nc ex mi aBox aByt b19_y1 b19_y2 b9_l1 b8_l1 b3_y1 b3_l2 b3_y3 b4_l1 b4_l2 b4_y3 b4_y4 b4_l5
noncomputable def F_book_Find (a0 : (List S_Entry)) (a1 : Int) : Option (S_Entry × Bool) :=
((F_book_find a0 a1).bind fun r1 =>
(if r1 < 0 then
some (((⟨0, 0, []⟩ : S_Entry), false))
else
((atI a0 r1).bind fun e2 =>
some ((e2, true)))))
theorem F_book_Find_ok {a0 : (List S_Entry)} {a1 : Int} {r : (S_Entry × Bool)} (h : F_book_Find a0 a1 = some r) : APure sys0 40 [(.ro (List.map c_Entry a0)), (I a1)] (.tuple [(.agg (c_Entry r.1)), (B r.2)]) := by
  refine APure.of_call sys_P (by kernel_rfl) (w40 (.ro (List.map c_Entry a0)) (I a1) _ _ ?_)
  have hR : ∀ q, r = q → ∀ v H, Fz (fun _ => True) H v (.tuple [(.agg (c_Entry q.1)), (B q.2)]) → Fz (fun _ => True) H v (.tuple [(.agg (c_Entry r.1)), (B r.2)]) := fun q e v H hv => by subst e; exact hv
  unfold F_book_Find at h
  unfold b40
  repeat' (first
    | refine qLss h (fun hb h => ?_) (fun hb h => ?_)
    | refine wCt ?_
    | refine wCf ?_
    | refine sAl ?_
    | refine qIaR h (fun _ => rfl) (fun e he h => ?_)
    | refine sLdRA (Nat.le_of_ble_eq_true rfl) ?_
    | (refine sLdPA ?_ rfl rfl ?_; (focus (repeat (first | exact cur_same | assumption | refine cur_ne (by decide) ?_))))
    | (refine sStP ?_ rfl rfl rfl rfl ?_; (focus (repeat (first | exact cur_same | assumption | refine cur_ne (by decide) ?_))))
    | refine sBd rfl ?_
    | (refine qC h (fun r hr => F_book_find_ok hr) ?_ (fun r hr h => ?_); (focus (repeat' (first | exact Fz.nil | (refine fz_eq rfl ?_; (focus (simp [pure_eE]; done))) | refine fz_tup ?_ | refine fz_agg ?_ | refine FzL.cons ?_ ?_ | exact FzL.nil | fail))))
    | (cases h; refine hR _ rfl _ _ ?_; (focus (repeat' (first | exact Fz.nil | (refine fz_eq rfl ?_; (focus (simp [pure_eE]; done))) | refine fz_tup ?_ | refine fz_agg ?_ | refine FzL.cons ?_ ?_ | exact FzL.nil | fail))))
    | fail)

noncomputable def F_judge_note_y2 (x9 : (List S_Entry)) (x10 : Int) : Option ((List S_Entry) × Bool) :=
(if x10 = 0 then
some ((x9, true))
else
some ((x9, false)))
theorem F_judge_note_y2_ok {K : AV → Heap → Prop} {x9 : (List S_Entry)} {x10 : Int} {y : ((List S_Entry) × Bool)} (h : F_judge_note_y2 x9 x10 = some y) (hR : ∀ q, y = q → ∀ v H, Fz (fun _ => True) H v (.tuple [(.ro (List.map c_Entry q.1)), (B q.2)]) → K v H) {H : Heap} : b19_y2 K [(.ro (List.map c_Entry x9)), (I x10)] H := by
  unfold F_judge_note_y2 at h
  unfold b19_y2
  simp only [List.getD_cons_zero, List.getD_cons_succ]
  repeat' (first
    | refine qEql h (fun hb h => ?_) (fun hb h => ?_)
    | (cases h; refine hR _ rfl _ _ ?_; (focus (repeat' (first | exact Fz.nil | (refine fz_eq rfl ?_; (focus (simp [pure_eE]; done))) | refine fz_tup ?_ | refine fz_agg ?_ | refine FzL.cons ?_ ?_ | exact FzL.nil | fail))))
    | fail)

noncomputable def F_judge_note_y1 (x2 : S_Told) (x3 : (List S_Entry)) (x4 : Int) (b5 : Bool) : Option ((List S_Entry) × Bool) :=
(bif b5 then
((F_book_Begin x3 (⟨x2.ID, 3, x2.Level⟩ : S_Entry)).bind fun r6 =>
F_judge_note_y2 r6.1 r6.2)
else
(if x4 = 5 then
((F_book_Find x3 x2.ID).bind fun r7 =>
(if r7.2 = true then
(if r7.1.Level = x2.Level then
((F_book_Move x3 x2.ID 3).bind fun r8 =>
F_judge_note_y2 r8.1 r8.2)
else
some (([], false)))
else
some (([], false))))
else
F_judge_note_y2 x3 0))
theorem F_judge_note_y1_ok {K : AV → Heap → Prop} {x2 : S_Told} {x3 : (List S_Entry)} {x4 : Int} {b5 : Bool} {y : ((List S_Entry) × Bool)} (h : F_judge_note_y1 x2 x3 x4 b5 = some y) {v3 : Nat} (hR : ∀ q, y = q → ∀ v H, Fz (fun _ => True) H v (.tuple [(.ro (List.map c_Entry q.1)), (B q.2)]) → K v H) {H : Heap} (hd3 : H 3 = ⟨v3, true, [(I x2.At), (I x2.Kind), (I x2.ID), (T x2.Level), (I x2.Seats), (I x2.Why), (.v (.int .u64 x2.Digest))], 31⟩) : b19_y1 K (b19_y2 K) [(.ro (List.map c_Entry x3)), (.ptr 3 v3 0), (I 0), (I x4), (B b5)] H := by
  obtain ⟨H, rfl⟩ := objs1 hd3
  unfold F_judge_note_y1 at h
  unfold b19_y1
  simp only [List.getD_cons_zero, List.getD_cons_succ]
  repeat' (first
    | refine qEql h (fun hb h => ?_) (fun hb h => ?_)
    | refine qNeS h (fun hb h => ?_) (fun hb h => ?_)
    | refine wCt ?_
    | refine wCf ?_
    | refine wGt ?_
    | refine wGf ?_
    | refine wGn ?_
    | refine wGm ?_
    | refine wGu ?_
    | refine sPt ?_
    | refine sPf ?_
    | refine sNt ?_
    | refine sNf ?_
    | refine sAl ?_
    | refine qExB rfl h (fun hb h => ?_) (fun hb h => ?_)
    | refine sEx rfl ?_
    | (refine sFaP ?_ ?_; (focus (repeat (first | exact cur_same | assumption | refine cur_ne (by decide) ?_))))
    | (refine sLdP1 ?_ rfl ?_; (focus (repeat (first | exact cur_same | assumption | refine cur_ne (by decide) ?_))))
    | (refine sStP ?_ rfl rfl rfl rfl ?_; (focus (repeat (first | exact cur_same | assumption | refine cur_ne (by decide) ?_))))
    | refine sBd rfl ?_
    | (refine qC h (fun r hr => F_book_Begin_ok hr) ?_ (fun r hr h => ?_); (focus (repeat' (first | exact Fz.nil | (refine fz_eq rfl ?_; (focus (simp [pure_eE]; done))) | refine fz_tup ?_ | refine fz_agg ?_ | refine FzL.cons ?_ ?_ | exact FzL.nil | fail))))
    | (refine qC h (fun r hr => F_book_Find_ok hr) ?_ (fun r hr h => ?_); (focus (repeat' (first | exact Fz.nil | (refine fz_eq rfl ?_; (focus (simp [pure_eE]; done))) | refine fz_tup ?_ | refine fz_agg ?_ | refine FzL.cons ?_ ?_ | exact FzL.nil | fail))))
    | (refine qC h (fun r hr => F_book_Move_ok hr) ?_ (fun r hr h => ?_); (focus (repeat' (first | exact Fz.nil | (refine fz_eq rfl ?_; (focus (simp [pure_eE]; done))) | refine fz_tup ?_ | refine fz_agg ?_ | refine FzL.cons ?_ ?_ | exact FzL.nil | fail))))
    | exact F_judge_note_y2_ok h hR
    | (cases h; refine hR _ rfl _ _ ?_; (focus (repeat' (first | exact Fz.nil | (refine fz_eq rfl ?_; (focus (simp [pure_eE]; done))) | refine fz_tup ?_ | refine fz_agg ?_ | refine FzL.cons ?_ ?_ | exact FzL.nil | fail))))
    | (cases b5 <;> try simp only [cond_true, cond_false] at h)
    | fail)

noncomputable def F_judge_note (a0 : (List S_Entry)) (a1 : S_Told) : Option ((List S_Entry) × Bool) :=
(if a1.Kind = 1 then
((F_book_Begin a0 (⟨a1.ID, 2, a1.Level⟩ : S_Entry)).bind fun r1 =>
F_judge_note_y2 r1.1 r1.2)
else
(if a1.Kind = 2 then
F_judge_note_y1 a1 a0 a1.Kind true
else
(if a1.Kind = 3 then
F_judge_note_y1 a1 a0 a1.Kind true
else
(if a1.Kind = 4 then
F_judge_note_y1 a1 a0 a1.Kind true
else
F_judge_note_y1 a1 a0 a1.Kind false))))
theorem F_judge_note_ok {a0 : (List S_Entry)} {a1 : S_Told} {r : ((List S_Entry) × Bool)} (h : F_judge_note a0 a1 = some r) : APure sys0 19 [(.ro (List.map c_Entry a0)), (.agg (c_Told a1))] (.tuple [(.ro (List.map c_Entry r.1)), (B r.2)]) := by
  refine APure.of_call sys_P (by kernel_rfl) (w19 (.ro (List.map c_Entry a0)) (.agg (c_Told a1)) _ _ ?_)
  have hR : ∀ q, r = q → ∀ v H, Fz (fun _ => True) H v (.tuple [(.ro (List.map c_Entry q.1)), (B q.2)]) → Fz (fun _ => True) H v (.tuple [(.ro (List.map c_Entry r.1)), (B r.2)]) := fun q e v H hv => by subst e; exact hv
  unfold F_judge_note at h
  unfold b19
  repeat' (first
    | refine qEql h (fun hb h => ?_) (fun hb h => ?_)
    | refine wCt ?_
    | refine wCf ?_
    | refine sBoxA ?_
    | refine sEx rfl ?_
    | (refine sFaP ?_ ?_; (focus (repeat (first | exact cur_same | assumption | refine cur_ne (by decide) ?_))))
    | (refine sLdP1 ?_ rfl ?_; (focus (repeat (first | exact cur_same | assumption | refine cur_ne (by decide) ?_))))
    | refine sBd rfl ?_
    | (refine qC h (fun r hr => F_book_Begin_ok hr) ?_ (fun r hr h => ?_); (focus (repeat' (first | exact Fz.nil | (refine fz_eq rfl ?_; (focus (simp [pure_eE]; done))) | refine fz_tup ?_ | refine fz_agg ?_ | refine FzL.cons ?_ ?_ | exact FzL.nil | fail))))
    | exact F_judge_note_y1_ok h hR rfl
    | exact F_judge_note_y2_ok h hR
    | refine joinK_in ?_
    | fail)

def F_judge_Look_I1 (x5 : (List (List UInt8))) (x6 : Int) (s : ((List S_Entry) × Int × Int)) (vs : List AV) (H : Heap) : Prop := match s with
  | (l2, x4, x7) => ∃ o3, vs = [o3, (I x4), (.ro (List.map cT x5)), (I x6), (I x7)] ∧ RdS c_Entry l2 o3
noncomputable def F_judge_Look_l1 (x5 : (List (List UInt8))) (x6 : Int) (s : ((List S_Entry) × Int × Int)) : Option (((List S_Entry) × Int × Int) ⊕ (Int × Int)) := match s with
  | (l2, x4, x7) =>
    (if x7 < x6 then
    ((atI x5 x7).bind fun e8 =>
    ((F_trace_Read e8).bind fun r9 =>
    (if r9.2 = 0 then
    ((F_judge_note l2 r9.1).bind fun r10 =>
    (if r10.2 = true then
    (if r9.1.At < x4 then
    (if ck (x7 + 1) then
    some (.inr (((x7 + 1), 13)))
    else none)
    else
    (if ck (x7 + 1) then
    some (.inl (r10.1, r9.1.At, (x7 + 1)))
    else none))
    else
    (if r9.1.At < x4 then
    (if ck (x7 + 1) then
    some (.inr (((x7 + 1), 13)))
    else none)
    else
    (if ck (x7 + 1) then
    some (.inr (((x7 + 1), 13)))
    else none))))
    else
    (if ck (x7 + 1) then
    some (.inr (((x7 + 1), r9.2)))
    else none))))
    else
    some (.inr ((0, 0))))
theorem F_judge_Look_l1_ok {K : AV → Heap → Prop} {x5 : (List (List UInt8))} {x6 : Int} {s : ((List S_Entry) × Int × Int)} {y : (Int × Int)} (h : iterO (F_judge_Look_l1 x5 x6) s = some y) (hR : ∀ q, y = q → ∀ v H, Fz (fun _ => True) H v (.tuple [(I q.1), (I q.2)]) → K v H) {vs : List AV} {H : Heap} (hI : F_judge_Look_I1 x5 x6 s vs H) : LoopK (b9_l1 K) vs H := by
  refine LoopK_iter (R := F_judge_Look_I1 x5 x6) (fun s y2 vs H k1 h hI hJ1 hr => ?_) h hI
  have hR := fun q e => hR q (hr _ e).symm
  obtain ⟨l2, x4, x7⟩ := s
  obtain ⟨o3, rfl, ho3⟩ := hI
  rcases ho3 with ⟨rfl, rfl⟩ | rfl
  all_goals unfold F_judge_Look_l1 at h
  all_goals simp only at h
  all_goals unfold b9_l1
  all_goals simp only [List.getD_cons_zero, List.getD_cons_succ]
  all_goals (repeat' (first
    | refine qLss h (fun hb h => ?_) (fun hb h => ?_)
    | refine qNeq h (fun hb h => ?_) (fun hb h => ?_)
    | refine wCt ?_
    | refine wCf ?_
    | refine wGt ?_
    | refine wGf ?_
    | refine wGn ?_
    | refine wGm ?_
    | refine wGu ?_
    | refine sPt ?_
    | refine sPf ?_
    | refine sNt ?_
    | refine sNf ?_
    | refine sAl ?_
    | refine qAdd h (fun hb h => ?_)
    | refine qIaR h (fun _ => rfl) (fun e he h => ?_)
    | exact qIaN h
    | refine qExB rfl h (fun hb h => ?_) (fun hb h => ?_)
    | refine sEx rfl ?_
    | (refine sFaP ?_ ?_; (focus (repeat (first | exact cur_same | assumption | refine cur_ne (by decide) ?_))))
    | refine sLdR1 rfl ?_
    | (refine sLdP1 ?_ rfl ?_; (focus (repeat (first | exact cur_same | assumption | refine cur_ne (by decide) ?_))))
    | (refine sLdPA ?_ rfl rfl ?_; (focus (repeat (first | exact cur_same | assumption | refine cur_ne (by decide) ?_))))
    | (refine sStP ?_ rfl rfl rfl rfl ?_; (focus (repeat (first | exact cur_same | assumption | refine cur_ne (by decide) ?_))))
    | (refine qC h (fun r hr => F_judge_note_ok hr) ?_ (fun r hr h => ?_); (focus (repeat' (first | exact Fz.nil | (refine fz_eq rfl ?_; (focus (simp [pure_eE]; done))) | refine fz_tup ?_ | refine fz_agg ?_ | refine FzL.cons ?_ ?_ | exact FzL.nil | fail))))
    | (refine qC h (fun r hr => F_trace_Read_ok hr) ?_ (fun r hr h => ?_); (focus (repeat' (first | exact Fz.nil | (refine fz_eq rfl ?_; (focus (simp [pure_eE]; done))) | refine fz_tup ?_ | refine fz_agg ?_ | refine FzL.cons ?_ ?_ | exact FzL.nil | fail))))
    | (cases h; exact hJ1 _ _ _ rfl ⟨_, rfl, (by first | exact .inl ⟨rfl, rfl⟩ | exact .inr ⟨_, _, by simp, rfl, rfl⟩ | exact .inr rfl)⟩)
    | (cases h; refine hR _ rfl _ _ ?_; (focus (repeat' (first | exact Fz.nil | (refine fz_eq rfl ?_; (focus (simp [pure_eE]; done))) | refine fz_tup ?_ | refine fz_agg ?_ | refine FzL.cons ?_ ?_ | exact FzL.nil | fail))))
    | fail))

noncomputable def F_judge_Look (a0 : (List UInt8)) : Option (Int × Int) :=
(if 4194304 < (a0.length : Int) then
some ((0, 3))
else
((F_words_Lines a0).bind fun r1 =>
iterO (F_judge_Look_l1 r1 (r1.length : Int)) ([], 0, 0)))
theorem F_judge_Look_ok {a0 : (List UInt8)} {r : (Int × Int)} (h : F_judge_Look a0 = some r) : APure sys0 9 [(T a0)] (.tuple [(I r.1), (I r.2)]) := by
  refine APure.of_call sys_P (by kernel_rfl) (w9 (T a0) _ _ ?_)
  have hR : ∀ q, r = q → ∀ v H, Fz (fun _ => True) H v (.tuple [(I q.1), (I q.2)]) → Fz (fun _ => True) H v (.tuple [(I r.1), (I r.2)]) := fun q e v H hv => by subst e; exact hv
  unfold F_judge_Look at h
  unfold b9
  repeat' (first
    | refine qGtr h (fun hb h => ?_) (fun hb h => ?_)
    | refine wCt ?_
    | refine wCf ?_
    | refine sLnS ?_
    | refine sLnM ?_
    | refine sLnN ?_
    | (refine qC h (fun r hr => F_words_Lines_ok hr) ?_ (fun r hr h => ?_); (focus (repeat' (first | exact Fz.nil | (refine fz_eq rfl ?_; (focus (simp [pure_eE]; done))) | refine fz_tup ?_ | refine fz_agg ?_ | refine FzL.cons ?_ ?_ | exact FzL.nil | fail))))
    | exact F_judge_Look_l1_ok h hR ⟨_, rfl, (by first | exact .inl ⟨rfl, rfl⟩ | exact .inr ⟨_, _, by simp, rfl, rfl⟩ | exact .inr rfl)⟩
    | (cases h; refine hR _ rfl _ _ ?_; (focus (repeat' (first | exact Fz.nil | (refine fz_eq rfl ?_; (focus (simp [pure_eE]; done))) | refine fz_tup ?_ | refine fz_agg ?_ | refine FzL.cons ?_ ?_ | exact FzL.nil | fail))))
    | fail)

noncomputable def F_usherlaw29_awake : Option Bool :=
((F_judge_Look [48, 32, 115, 116, 97, 114, 116, 101, 100, 32, 49, 32, 97, 32, 50, 10, 51, 32, 101, 110, 100, 101, 100, 32, 49, 32, 97]).bind fun r1 =>
((F_judge_Look [51, 32, 101, 110, 100, 101, 100, 32, 49, 32, 97, 10]).bind fun r2 =>
(if r1.1 = 0 then
(if r1.2 = 0 then
(if r2.1 = 1 then
(if r2.2 = 13 then
some (true)
else
some (false))
else
some (false))
else
some (false))
else
some (false))))
theorem F_usherlaw29_awake_ok {r : Bool} (h : F_usherlaw29_awake = some r) : APure sys0 7 [] (B r) := by
  refine APure.of_call sys_P (by kernel_rfl) (w7 _ _ ?_)
  have hR : ∀ q, r = q → ∀ v H, Fz (fun _ => True) H v (B q) → Fz (fun _ => True) H v (B r) := fun q e v H hv => by subst e; exact hv
  unfold F_usherlaw29_awake at h
  unfold b7
  repeat' (first
    | refine qEql h (fun hb h => ?_) (fun hb h => ?_)
    | refine wGt ?_
    | refine wGf ?_
    | refine wGn ?_
    | refine wGm ?_
    | refine wGu ?_
    | refine sPt ?_
    | refine sPf ?_
    | refine sEx rfl ?_
    | (refine qC h (fun r hr => F_judge_Look_ok hr) ?_ (fun r hr h => ?_); (focus (repeat' (first | exact Fz.nil | (refine fz_eq rfl ?_; (focus (simp [pure_eE]; done))) | refine fz_tup ?_ | refine fz_agg ?_ | refine FzL.cons ?_ ?_ | exact FzL.nil | fail))))
    | (cases h; refine hR _ rfl _ _ ?_; (focus (repeat' (first | exact Fz.nil | (refine fz_eq rfl ?_; (focus (simp [pure_eE]; done))) | refine fz_tup ?_ | refine fz_agg ?_ | refine FzL.cons ?_ ?_ | exact FzL.nil | fail))))
    | fail)

noncomputable def F_trace_Write (a0 : S_Told) : Option ((List UInt8) × Int) :=
((F_trace_line a0).bind fun r1 =>
((F_trace_Read r1).bind fun r2 =>
(if r2.2 = 0 then
(if r2.1 = a0 then
some ((r1, 0))
else
some (([], 2)))
else
some (([], 2)))))
theorem F_trace_Write_ok {a0 : S_Told} {r : ((List UInt8) × Int)} (h : F_trace_Write a0 = some r) : APure sys0 16 [(.agg (c_Told a0))] (.tuple [(T r.1), (I r.2)]) := by
  refine APure.of_call sys_P (by kernel_rfl) (w16 (.agg (c_Told a0)) _ _ ?_)
  have hR : ∀ q, r = q → ∀ v H, Fz (fun _ => True) H v (.tuple [(T q.1), (I q.2)]) → Fz (fun _ => True) H v (.tuple [(T r.1), (I r.2)]) := fun q e v H hv => by subst e; exact hv
  unfold F_trace_Write at h
  unfold b16
  repeat' (first
    | refine qNeq h (fun hb h => ?_) (fun hb h => ?_)
    | refine wCt ?_
    | refine wCf ?_
    | refine wGt ?_
    | refine wGf ?_
    | refine wGn ?_
    | refine wGm ?_
    | refine wGu ?_
    | refine sPt ?_
    | refine sPf ?_
    | refine sAl ?_
    | refine sBoxA ?_
    | refine sEx rfl ?_
    | (refine sLdPA ?_ rfl rfl ?_; (focus (repeat (first | exact cur_same | assumption | refine cur_ne (by decide) ?_))))
    | (refine sStP ?_ rfl rfl rfl rfl ?_; (focus (repeat (first | exact cur_same | assumption | refine cur_ne (by decide) ?_))))
    | (refine qC h (fun r hr => F_trace_Read_ok hr) ?_ (fun r hr h => ?_); (focus (repeat' (first | exact Fz.nil | (refine fz_eq rfl ?_; (focus (simp [pure_eE]; done))) | refine fz_tup ?_ | refine fz_agg ?_ | refine FzL.cons ?_ ?_ | exact FzL.nil | fail))))
    | (refine qC h (fun r hr => F_trace_line_ok hr) ?_ (fun r hr h => ?_); (focus (repeat' (first | exact Fz.nil | (refine fz_eq rfl ?_; (focus (simp [pure_eE]; done))) | refine fz_tup ?_ | refine fz_agg ?_ | refine FzL.cons ?_ ?_ | exact FzL.nil | fail))))
    | refine qNeT (eqN_Told) h rfl rfl (fun hb h => ?_) (fun hb h => ?_)
    | (cases h; refine hR _ rfl _ _ ?_; (focus (repeat' (first | exact Fz.nil | (refine fz_eq rfl ?_; (focus (simp [pure_eE]; done))) | refine fz_tup ?_ | refine fz_agg ?_ | refine FzL.cons ?_ ?_ | exact FzL.nil | fail))))
    | fail)

def F_usherlaw29_lines_I1 (x1 : (List S_Told)) (s : ((List UInt8) × Int)) (vs : List AV) (H : Heap) : Prop := match s with
  | (x2, x3) => vs = [(.ro (List.map c_Told x1)), (T x2), (I x3)]
noncomputable def F_usherlaw29_lines_l1 (x1 : (List S_Told)) (s : ((List UInt8) × Int)) : Option (((List UInt8) × Int) ⊕ ((List UInt8) × Bool)) := match s with
  | (x2, x3) =>
    (if x3 < (x1.length : Int) then
    ((atI x1 x3).bind fun e4 =>
    ((F_trace_Write e4).bind fun r5 =>
    (if r5.2 = 0 then
    (if r5.1.length + ([10] : List UInt8).length ≤ 1073741824 then
    (if x2.length + (r5.1 ++ [10]).length ≤ 1073741824 then
    (if ck (x3 + 1) then
    some (.inl ((x2 ++ (r5.1 ++ [10])), (x3 + 1)))
    else none)
    else none)
    else none)
    else
    some (.inr (([], false))))))
    else
    some (.inr ((x2, true))))
theorem F_usherlaw29_lines_l1_ok {K : AV → Heap → Prop} {x1 : (List S_Told)} {s : ((List UInt8) × Int)} {y : ((List UInt8) × Bool)} (h : iterO (F_usherlaw29_lines_l1 x1) s = some y) (hR : ∀ q, y = q → ∀ v H, Fz (fun _ => True) H v (.tuple [(T q.1), (B q.2)]) → K v H) {vs : List AV} {H : Heap} (hI : F_usherlaw29_lines_I1 x1 s vs H) : LoopK (b8_l1 K) vs H := by
  refine LoopK_iter (R := F_usherlaw29_lines_I1 x1) (fun s y2 vs H k1 h hI hJ1 hr => ?_) h hI
  have hR := fun q e => hR q (hr _ e).symm
  obtain ⟨x2, x3⟩ := s
  obtain rfl := hI
  unfold F_usherlaw29_lines_l1 at h
  simp only at h
  unfold b8_l1
  simp only [List.getD_cons_zero, List.getD_cons_succ]
  repeat' (first
    | refine qLss h (fun hb h => ?_) (fun hb h => ?_)
    | refine qNeq h (fun hb h => ?_) (fun hb h => ?_)
    | refine wCt ?_
    | refine wCf ?_
    | refine sLnM ?_
    | refine qAdd h (fun hb h => ?_)
    | refine qAddS h (fun h => ?_)
    | refine qIaR h (fun _ => rfl) (fun e he h => ?_)
    | refine sEx rfl ?_
    | refine sLdRA (Nat.le_of_ble_eq_true rfl) ?_
    | (refine qC h (fun r hr => F_trace_Write_ok hr) ?_ (fun r hr h => ?_); (focus (repeat' (first | exact Fz.nil | (refine fz_eq rfl ?_; (focus (simp [pure_eE]; done))) | refine fz_tup ?_ | refine fz_agg ?_ | refine FzL.cons ?_ ?_ | exact FzL.nil | fail))))
    | (cases h; exact hJ1 _ _ _ rfl rfl)
    | (cases h; refine hR _ rfl _ _ ?_; (focus (repeat' (first | exact Fz.nil | (refine fz_eq rfl ?_; (focus (simp [pure_eE]; done))) | refine fz_tup ?_ | refine fz_agg ?_ | refine FzL.cons ?_ ?_ | exact FzL.nil | fail))))
    | fail)

noncomputable def F_usherlaw29_lines (a0 : (List S_Told)) : Option ((List UInt8) × Bool) :=
iterO (F_usherlaw29_lines_l1 a0) ([], 0)
theorem F_usherlaw29_lines_ok {a0 : (List S_Told)} {r : ((List UInt8) × Bool)} (h : F_usherlaw29_lines a0 = some r) : APure sys0 8 [(.ro (List.map c_Told a0))] (.tuple [(T r.1), (B r.2)]) := by
  refine APure.of_call sys_P (by kernel_rfl) (w8 (.ro (List.map c_Told a0)) _ _ ?_)
  have hR : ∀ q, r = q → ∀ v H, Fz (fun _ => True) H v (.tuple [(T q.1), (B q.2)]) → Fz (fun _ => True) H v (.tuple [(T r.1), (B r.2)]) := fun q e v H hv => by subst e; exact hv
  unfold F_usherlaw29_lines at h
  unfold b8
  repeat' (first
    | exact F_usherlaw29_lines_l1_ok h hR rfl
    | fail)

def F_usherlaw29_JudgeApart_I2 (s : ((List S_Told) × Int × (List S_Told) × Int)) (vs : List AV) (H : Heap) : Prop := match s with
  | (x9, x10, l11, x13) => ∃ o12, vs = [(.ro (List.map c_Told x9)), (I x10), o12, (I x13)] ∧ OwnS H [71] c_Told 7 31 l11 o12
noncomputable def F_usherlaw29_JudgeApart_y1 (x20 : (List S_Told)) (x21 : Int) (l22 : (List S_Told)) (x24 : Int) : Option (((List S_Told) × Int × (List S_Told) × Int) ⊕ Bool) :=
(if ck (x24 + 1) then
some (.inl (x20, x21, l22, (x24 + 1)))
else none)
theorem F_usherlaw29_JudgeApart_y1_ok {K : AV → Heap → Prop} {k2 : List AV → Heap → Prop} {x20 : (List S_Told)} {x21 : Int} {l22 : (List S_Told)} {x24 : Int} {y : (((List S_Told) × Int × (List S_Told) × Int) ⊕ Bool)} (h : F_usherlaw29_JudgeApart_y1 x20 x21 l22 x24 = some y) (hJ2 : ∀ s vs H, y = .inl s → F_usherlaw29_JudgeApart_I2 s vs H → k2 vs H) (hR : ∀ q, y = .inr (q) → ∀ v H, Fz (fun _ => True) H v (B q) → K v H) {H : Heap} {o23 : AV} (ho23 : OwnS H [71] c_Told 7 31 l22 o23) : b3_y1 K k2 [(.ro (List.map c_Told x20)), (I x21), o23, (I x24)] H := by
  rcases ho23 with ⟨rfl, rfl⟩ | ⟨do23, vo23, mo23, rfl, go23⟩
  all_goals try (simp only [List.mem_cons, List.not_mem_nil, or_false] at mo23; subst mo23)
  all_goals first | (obtain ⟨H, rfl⟩ := objs1 go23) | skip
  all_goals unfold F_usherlaw29_JudgeApart_y1 at h
  all_goals unfold b3_y1
  all_goals simp only [List.getD_cons_zero, List.getD_cons_succ]
  all_goals (repeat' (first
    | refine qAdd h (fun hb h => ?_)
    | (cases h; exact hJ2 _ _ _ rfl ⟨_, rfl, (by first | exact .inl ⟨rfl, rfl⟩ | exact .inr ⟨_, _, by simp, rfl, rfl⟩ | exact .inr rfl)⟩)
    | fail))

noncomputable def F_usherlaw29_JudgeApart_l2 (s : ((List S_Told) × Int × (List S_Told) × Int)) : Option (((List S_Told) × Int × (List S_Told) × Int) ⊕ Bool) := match s with
  | (x9, x10, l11, x13) =>
    (if x13 < (x9.length : Int) then
    ((atI x9 x13).bind fun e14 =>
    (if e14.Kind = 6 then
    ((atI x9 x13).bind fun e15 =>
    (if l11.length + ([e15] : List S_Told).length ≤ 1073741824 then
    F_usherlaw29_JudgeApart_y1 x9 x10 (l11 ++ [e15]) x13
    else none))
    else
    ((atI x9 x13).bind fun e16 =>
    (if e16.Kind = 7 then
    ((atI x9 x13).bind fun e17 =>
    (if l11.length + ([e17] : List S_Told).length ≤ 1073741824 then
    F_usherlaw29_JudgeApart_y1 x9 x10 (l11 ++ [e17]) x13
    else none))
    else
    ((atI x9 x13).bind fun e18 =>
    (if e18.ID = x10 then
    F_usherlaw29_JudgeApart_y1 x9 x10 l11 x13
    else
    ((atI x9 x13).bind fun e19 =>
    (if l11.length + ([e19] : List S_Told).length ≤ 1073741824 then
    F_usherlaw29_JudgeApart_y1 x9 x10 (l11 ++ [e19]) x13
    else none))))))))
    else
    ((F_usherlaw29_lines l11).bind fun r25 =>
    (if r25.2 = true then
    ((F_judge_Look r25.1).bind fun r26 =>
    (if r26.1 = 0 then
    (if r26.2 = 0 then
    some (.inr (true))
    else
    some (.inr (false)))
    else
    some (.inr (false))))
    else
    ((F_judge_Look r25.1).bind fun r27 =>
    some (.inr (false))))))
theorem F_usherlaw29_JudgeApart_l2_ok {K : AV → Heap → Prop} {s : ((List S_Told) × Int × (List S_Told) × Int)} {y : Bool} (h : iterO (F_usherlaw29_JudgeApart_l2) s = some y) (hR : ∀ q, y = q → ∀ v H, Fz (fun _ => True) H v (B q) → K v H) {vs : List AV} {H : Heap} (hI : F_usherlaw29_JudgeApart_I2 s vs H) : LoopK (b3_l2 K) vs H := by
  refine LoopK_iter (R := F_usherlaw29_JudgeApart_I2) (fun s y2 vs H k2 h hI hJ2 hr => ?_) h hI
  have hR := fun q e => hR q (hr _ e).symm
  obtain ⟨x9, x10, l11, x13⟩ := s
  obtain ⟨o12, rfl, ho12⟩ := hI
  rcases ho12 with ⟨rfl, rfl⟩ | ⟨do12, vo12, mo12, rfl, go12⟩
  all_goals try (simp only [List.mem_cons, List.not_mem_nil, or_false] at mo12; subst mo12)
  all_goals first | (obtain ⟨H, rfl⟩ := objs1 go12) | skip
  all_goals unfold F_usherlaw29_JudgeApart_l2 at h
  all_goals simp only at h
  all_goals unfold b3_l2
  all_goals simp only [List.getD_cons_zero, List.getD_cons_succ]
  all_goals (repeat' (first
    | refine qLss h (fun hb h => ?_) (fun hb h => ?_)
    | refine qEql h (fun hb h => ?_) (fun hb h => ?_)
    | refine qNeq h (fun hb h => ?_) (fun hb h => ?_)
    | refine wCt ?_
    | refine wCf ?_
    | refine wGt ?_
    | refine wGf ?_
    | refine wGn ?_
    | refine wGm ?_
    | refine wGu ?_
    | refine sPt ?_
    | refine sPf ?_
    | refine sLnM ?_
    | refine sFaR ?_
    | refine qIaR h (fun _ => rfl) (fun e he h => ?_)
    | refine qExB rfl h (fun hb h => ?_) (fun hb h => ?_)
    | refine sEx rfl ?_
    | refine sLdR1 rfl ?_
    | refine sLdRA (Nat.le_of_ble_eq_true rfl) ?_
    | (refine qC h (fun r hr => F_judge_Look_ok hr) ?_ (fun r hr h => ?_); (focus (repeat' (first | exact Fz.nil | exact fz_own rfl (fun _ => rfl) pure_c_Told | (refine fz_eq rfl ?_; (focus (simp [pure_eE]; done))) | refine fz_tup ?_ | refine fz_agg ?_ | refine FzL.cons ?_ ?_ | exact FzL.nil | fail))))
    | (cases h; exact hJ2 _ _ _ rfl ⟨_, rfl, (by first | exact .inl ⟨rfl, rfl⟩ | exact .inr ⟨_, _, by simp, rfl, rfl⟩ | exact .inr rfl)⟩)
    | exact F_usherlaw29_JudgeApart_y1_ok h hJ2 hR (by first | exact .inl ⟨rfl, rfl⟩ | exact .inr ⟨_, _, by simp, rfl, rfl⟩ | exact .inr rfl)
    | refine qApNO (c := c_Told) h (fun _ => rfl) leaf_c_Told rfl (fun h => ?_)
    | refine qApOO (c := c_Told) h (fun _ => rfl) leaf_c_Told rfl rfl (fun h => ?_)
    | (refine qCv h (fun r hr => F_usherlaw29_lines_ok hr) ?_ ?_ (fun r hr h => ?_); (focus (repeat' (first | exact Fz.nil | exact fz_own rfl (fun _ => rfl) pure_c_Told | (refine fz_eq rfl ?_; (focus (simp [pure_eE]; done))) | refine fz_tup ?_ | refine fz_agg ?_ | refine FzL.cons ?_ ?_ | exact FzL.nil | fail))); (focus (intro r; simp; done)))
    | refine sBS rfl ?_
    | refine joinK_in ?_
    | (cases h; refine hR _ rfl _ _ ?_; (focus (repeat' (first | exact Fz.nil | exact fz_own rfl (fun _ => rfl) pure_c_Told | (refine fz_eq rfl ?_; (focus (simp [pure_eE]; done))) | refine fz_tup ?_ | refine fz_agg ?_ | refine FzL.cons ?_ ?_ | exact FzL.nil | fail))))
    | fail))

noncomputable def F_usherlaw29_JudgeApart_y3 (x4 : (List S_Told)) (x5 : Int) (x6 : (List UInt8)) (b7 : Bool) : Option Bool :=
(bif b7 then
((F_judge_Look x6).bind fun r8 =>
(if r8.2 = 0 then
iterO (F_usherlaw29_JudgeApart_l2) (x4, x5, [], 0)
else
some (true)))
else
some (true))
theorem F_usherlaw29_JudgeApart_y3_ok {K : AV → Heap → Prop} {x4 : (List S_Told)} {x5 : Int} {x6 : (List UInt8)} {b7 : Bool} {y : Bool} (h : F_usherlaw29_JudgeApart_y3 x4 x5 x6 b7 = some y) (hR : ∀ q, y = q → ∀ v H, Fz (fun _ => True) H v (B q) → K v H) {H : Heap} : b3_y3 K [(.ro (List.map c_Told x4)), (I x5), (T x6), (B b7)] H := by
  unfold F_usherlaw29_JudgeApart_y3 at h
  unfold b3_y3
  simp only [List.getD_cons_zero, List.getD_cons_succ]
  repeat' (first
    | refine qNeq h (fun hb h => ?_) (fun hb h => ?_)
    | refine wCt ?_
    | refine wCf ?_
    | refine sNt ?_
    | refine sNf ?_
    | refine sEx rfl ?_
    | (refine qC h (fun r hr => F_judge_Look_ok hr) ?_ (fun r hr h => ?_); (focus (repeat' (first | exact Fz.nil | (refine fz_eq rfl ?_; (focus (simp [pure_eE]; done))) | refine fz_tup ?_ | refine fz_agg ?_ | refine FzL.cons ?_ ?_ | exact FzL.nil | fail))))
    | exact F_usherlaw29_JudgeApart_l2_ok h hR ⟨_, rfl, (by first | exact .inl ⟨rfl, rfl⟩ | exact .inr ⟨_, _, by simp, rfl, rfl⟩ | exact .inr rfl)⟩
    | (cases h; refine hR _ rfl _ _ ?_; (focus (repeat' (first | exact Fz.nil | (refine fz_eq rfl ?_; (focus (simp [pure_eE]; done))) | refine fz_tup ?_ | refine fz_agg ?_ | refine FzL.cons ?_ ?_ | exact FzL.nil | fail))))
    | (cases b7 <;> try simp only [cond_true, cond_false] at h)
    | fail)

noncomputable def F_usherlaw29_JudgeApart (a0 : (List S_Told)) (a1 : Int) : Option Bool :=
((F_usherlaw29_awake ).bind fun c1 => if c1 = true then
((cutI a0 0 (min (a0.length : Int) 100)).bind fun l2 =>
((F_usherlaw29_lines l2).bind fun r3 =>
(if r3.2 = true then
F_usherlaw29_JudgeApart_y3 l2 a1 r3.1 true
else
F_usherlaw29_JudgeApart_y3 l2 a1 r3.1 false)))
else
some (false))
theorem F_usherlaw29_JudgeApart_ok {a0 : (List S_Told)} {a1 : Int} {r : Bool} (h : F_usherlaw29_JudgeApart a0 a1 = some r) : APure sys0 3 [(.ro (List.map c_Told a0)), (I a1)] (B r) := by
  refine APure.of_call sys_P (by kernel_rfl) (w3 (.ro (List.map c_Told a0)) (I a1) _ _ ?_)
  have hR : ∀ q, r = q → ∀ v H, Fz (fun _ => True) H v (B q) → Fz (fun _ => True) H v (B r) := fun q e v H hv => by subst e; exact hv
  unfold F_usherlaw29_JudgeApart at h
  unfold b3
  repeat' (first
    | refine wCt ?_
    | refine wCf ?_
    | refine sNt ?_
    | refine sNf ?_
    | refine sLnM ?_
    | refine sMin ?_
    | refine qSlM h (fun _ => rfl) (fun M hM h => ?_)
    | refine qExB rfl h (fun hb h => ?_) (fun hb h => ?_)
    | refine sEx rfl ?_
    | (refine qC h (fun r hr => F_usherlaw29_lines_ok hr) ?_ (fun r hr h => ?_); (focus (repeat' (first | exact Fz.nil | (refine fz_eq rfl ?_; (focus (simp [pure_eE]; done))) | refine fz_tup ?_ | refine fz_agg ?_ | refine FzL.cons ?_ ?_ | exact FzL.nil | fail))))
    | (refine qCB h (fun r hr => F_usherlaw29_awake_ok hr) ?_ (fun hr h => ?_) (fun hr h => ?_); (focus (repeat' (first | exact Fz.nil | (refine fz_eq rfl ?_; (focus (simp [pure_eE]; done))) | refine fz_tup ?_ | refine fz_agg ?_ | refine FzL.cons ?_ ?_ | exact FzL.nil | fail))))
    | exact F_usherlaw29_JudgeApart_y3_ok h hR
    | refine joinK_in ?_
    | (cases h; refine hR _ rfl _ _ ?_; (focus (repeat' (first | exact Fz.nil | (refine fz_eq rfl ?_; (focus (simp [pure_eE]; done))) | refine fz_tup ?_ | refine fz_agg ?_ | refine FzL.cons ?_ ?_ | exact FzL.nil | fail))))
    | fail)

def F_usherlaw29_JudgeMerges_I5 (s : ((List S_Told) × (List S_Told) × Int)) (vs : List AV) (H : Heap) : Prop := match s with
  | (x4, x5, x6) => vs = [(.ro (List.map c_Told x4)), (.ro (List.map c_Told x5)), (I x6)]
def F_usherlaw29_JudgeMerges_I1 (x7 : (List S_Told)) (x8 : (List S_Told)) (x9 : Int) (s : Int) (vs : List AV) (H : Heap) : Prop := match s with
  | x10 => vs = [(.ro (List.map c_Told x7)), (.ro (List.map c_Told x8)), (I x9), (I x10)]
noncomputable def F_usherlaw29_JudgeMerges_l1 (x7 : (List S_Told)) (x8 : (List S_Told)) (x9 : Int) (s : Int) : Option (Int ⊕ (((List S_Told) × (List S_Told) × Int) ⊕ Bool)) := match s with
  | x10 =>
    (if x10 < (x8.length : Int) then
    ((atI x7 x9).bind fun e11 =>
    (if e11.Kind < 6 then
    ((atI x8 x10).bind fun e12 =>
    (if e12.Kind < 6 then
    ((atI x7 x9).bind fun e13 =>
    ((atI x8 x10).bind fun e14 =>
    (if e13.ID = e14.ID then
    some (.inr (.inr (true)))
    else
    (if ck (x10 + 1) then
    some (.inl (x10 + 1))
    else none))))
    else
    (if ck (x10 + 1) then
    some (.inl (x10 + 1))
    else none)))
    else
    (if ck (x10 + 1) then
    some (.inl (x10 + 1))
    else none)))
    else
    (if ck (x9 + 1) then
    some (.inr (.inl (x7, x8, (x9 + 1))))
    else none))
theorem F_usherlaw29_JudgeMerges_l1_ok {K : AV → Heap → Prop} {k1 : List AV → Heap → Prop} {x7 : (List S_Told)} {x8 : (List S_Told)} {x9 : Int} {s : Int} {y : (((List S_Told) × (List S_Told) × Int) ⊕ Bool)} (h : iterO (F_usherlaw29_JudgeMerges_l1 x7 x8 x9) s = some y) (hJ5 : ∀ s vs H, y = .inl s → F_usherlaw29_JudgeMerges_I5 s vs H → k1 vs H) (hR : ∀ q, y = .inr (q) → ∀ v H, Fz (fun _ => True) H v (B q) → K v H) {vs : List AV} {H : Heap} (hI : F_usherlaw29_JudgeMerges_I1 x7 x8 x9 s vs H) : LoopK (b4_l1 K k1) vs H := by
  refine LoopK_iter (R := F_usherlaw29_JudgeMerges_I1 x7 x8 x9) (fun s y2 vs H k2 h hI hJ1 hr => ?_) h hI
  have hR := fun q e => hR q (hr _ e).symm
  have hJ5 := fun s vs H e => hJ5 s vs H (hr _ e).symm
  revert h hI hJ1; generalize s = x10; intro h hI hJ1
  obtain rfl := hI
  unfold F_usherlaw29_JudgeMerges_l1 at h
  simp only at h
  unfold b4_l1
  simp only [List.getD_cons_zero, List.getD_cons_succ]
  repeat' (first
    | refine qLss h (fun hb h => ?_) (fun hb h => ?_)
    | refine qEql h (fun hb h => ?_) (fun hb h => ?_)
    | refine wCt ?_
    | refine wCf ?_
    | refine wGt ?_
    | refine wGf ?_
    | refine wGn ?_
    | refine wGm ?_
    | refine wGu ?_
    | refine sPt ?_
    | refine sPf ?_
    | refine sLnM ?_
    | refine sFaR ?_
    | refine qAdd h (fun hb h => ?_)
    | refine qIaR h (fun _ => rfl) (fun e he h => ?_)
    | refine sLdR1 rfl ?_
    | (cases h; exact hJ1 _ _ _ rfl rfl)
    | (cases h; exact hJ5 _ _ _ rfl rfl)
    | (cases h; refine hR _ rfl _ _ ?_; (focus (repeat' (first | exact Fz.nil | (refine fz_eq rfl ?_; (focus (simp [pure_eE]; done))) | refine fz_tup ?_ | refine fz_agg ?_ | refine FzL.cons ?_ ?_ | exact FzL.nil | fail))))
    | fail)

def F_usherlaw29_JudgeMerges_I2 (x29 : (List S_Told)) (x30 : (List S_Told)) (s : ((List S_Told) × Int × Int)) (vs : List AV) (H : Heap) : Prop := match s with
  | (l31, x33, x34) => ∃ o32, vs = [(.ro (List.map c_Told x29)), (.ro (List.map c_Told x30)), o32, (I x33), (I x34)] ∧ OwnS H [144, 153] c_Told 7 31 l31 o32
noncomputable def F_usherlaw29_JudgeMerges_l2 (x29 : (List S_Told)) (x30 : (List S_Told)) (s : ((List S_Told) × Int × Int)) : Option (((List S_Told) × Int × Int) ⊕ (((List S_Told) × (List S_Told) × Int) ⊕ Bool)) := match s with
  | (l31, x33, x34) =>
    (if x33 < (x29.length : Int) then
    (if x34 = (x30.length : Int) then
    ((atI x29 x33).bind fun e35 =>
    (if l31.length + ([e35] : List S_Told).length ≤ 1073741824 then
    (if ck (x33 + 1) then
    some (.inl ((l31 ++ [e35]), (x33 + 1), x34))
    else none)
    else none))
    else
    (if x33 < (x29.length : Int) then
    ((atI x29 x33).bind fun e36 =>
    ((atI x30 x34).bind fun e37 =>
    (if e36.At ≤ e37.At then
    ((atI x29 x33).bind fun e38 =>
    (if l31.length + ([e38] : List S_Told).length ≤ 1073741824 then
    (if ck (x33 + 1) then
    some (.inl ((l31 ++ [e38]), (x33 + 1), x34))
    else none)
    else none))
    else
    ((atI x30 x34).bind fun e39 =>
    (if l31.length + ([e39] : List S_Told).length ≤ 1073741824 then
    (if ck (x34 + 1) then
    some (.inl ((l31 ++ [e39]), x33, (x34 + 1)))
    else none)
    else none)))))
    else
    ((atI x30 x34).bind fun e40 =>
    (if l31.length + ([e40] : List S_Told).length ≤ 1073741824 then
    (if ck (x34 + 1) then
    some (.inl ((l31 ++ [e40]), x33, (x34 + 1)))
    else none)
    else none))))
    else
    (if x34 < (x30.length : Int) then
    (if x34 = (x30.length : Int) then
    ((atI x29 x33).bind fun e41 =>
    (if l31.length + ([e41] : List S_Told).length ≤ 1073741824 then
    (if ck (x33 + 1) then
    some (.inl ((l31 ++ [e41]), (x33 + 1), x34))
    else none)
    else none))
    else
    (if x33 < (x29.length : Int) then
    ((atI x29 x33).bind fun e42 =>
    ((atI x30 x34).bind fun e43 =>
    (if e42.At ≤ e43.At then
    ((atI x29 x33).bind fun e44 =>
    (if l31.length + ([e44] : List S_Told).length ≤ 1073741824 then
    (if ck (x33 + 1) then
    some (.inl ((l31 ++ [e44]), (x33 + 1), x34))
    else none)
    else none))
    else
    ((atI x30 x34).bind fun e45 =>
    (if l31.length + ([e45] : List S_Told).length ≤ 1073741824 then
    (if ck (x34 + 1) then
    some (.inl ((l31 ++ [e45]), x33, (x34 + 1)))
    else none)
    else none)))))
    else
    ((atI x30 x34).bind fun e46 =>
    (if l31.length + ([e46] : List S_Told).length ≤ 1073741824 then
    (if ck (x34 + 1) then
    some (.inl ((l31 ++ [e46]), x33, (x34 + 1)))
    else none)
    else none))))
    else
    ((F_usherlaw29_lines l31).bind fun r47 =>
    (if r47.2 = true then
    ((F_judge_Look r47.1).bind fun r48 =>
    (if r48.1 = 0 then
    (if r48.2 = 0 then
    some (.inr (.inr (true)))
    else
    some (.inr (.inr (false))))
    else
    some (.inr (.inr (false)))))
    else
    ((F_judge_Look r47.1).bind fun r49 =>
    (if r49.1 = 0 then
    (if r49.2 = 0 then
    some (.inr (.inr (true)))
    else
    some (.inr (.inr (false))))
    else
    some (.inr (.inr (false)))))))))
theorem F_usherlaw29_JudgeMerges_l2_ok {K : AV → Heap → Prop} {x29 : (List S_Told)} {x30 : (List S_Told)} {s : ((List S_Told) × Int × Int)} {y : (((List S_Told) × (List S_Told) × Int) ⊕ Bool)} (h : iterO (F_usherlaw29_JudgeMerges_l2 x29 x30) s = some y) (hR : ∀ q, y = .inr (q) → ∀ v H, Fz (fun _ => True) H v (B q) → K v H) {vs : List AV} {H : Heap} (hI : F_usherlaw29_JudgeMerges_I2 x29 x30 s vs H) : LoopK (b4_l2 K) vs H := by
  refine LoopK_iter (R := F_usherlaw29_JudgeMerges_I2 x29 x30) (fun s y2 vs H k5 h hI hJ2 hr => ?_) h hI
  have hR := fun q e => hR q (hr _ e).symm
  obtain ⟨l31, x33, x34⟩ := s
  obtain ⟨o32, rfl, ho32⟩ := hI
  rcases ho32 with ⟨rfl, rfl⟩ | ⟨do32, vo32, mo32, rfl, go32⟩
  all_goals try (simp only [List.mem_cons, List.not_mem_nil, or_false] at mo32; rcases mo32 with rfl | rfl)
  all_goals first | (obtain ⟨H, rfl⟩ := objs1 go32) | skip
  all_goals unfold F_usherlaw29_JudgeMerges_l2 at h
  all_goals simp only at h
  all_goals unfold b4_l2
  all_goals simp only [List.getD_cons_zero, List.getD_cons_succ]
  all_goals (repeat' (first
    | refine qLss h (fun hb h => ?_) (fun hb h => ?_)
    | refine qLeq h (fun hb h => ?_) (fun hb h => ?_)
    | refine qEql h (fun hb h => ?_) (fun hb h => ?_)
    | refine wCt ?_
    | refine wCf ?_
    | refine wGt ?_
    | refine wGf ?_
    | refine wGn ?_
    | refine wGm ?_
    | refine wGu ?_
    | refine sPt ?_
    | refine sPf ?_
    | refine sLnM ?_
    | refine sFaR ?_
    | refine qAdd h (fun hb h => ?_)
    | refine qIaR h (fun _ => rfl) (fun e he h => ?_)
    | refine qExB rfl h (fun hb h => ?_) (fun hb h => ?_)
    | refine sEx rfl ?_
    | refine sLdR1 rfl ?_
    | refine sLdRA (Nat.le_of_ble_eq_true rfl) ?_
    | (refine qC h (fun r hr => F_judge_Look_ok hr) ?_ (fun r hr h => ?_); (focus (repeat' (first | exact Fz.nil | exact fz_own rfl (fun _ => rfl) pure_c_Told | (refine fz_eq rfl ?_; (focus (simp [pure_eE]; done))) | refine fz_tup ?_ | refine fz_agg ?_ | refine FzL.cons ?_ ?_ | exact FzL.nil | fail))))
    | (cases h; exact hJ2 _ _ _ rfl ⟨_, rfl, (by first | exact .inl ⟨rfl, rfl⟩ | exact .inr ⟨_, _, by simp, rfl, rfl⟩ | exact .inr rfl)⟩)
    | refine qApNO (c := c_Told) h (fun _ => rfl) leaf_c_Told rfl (fun h => ?_)
    | refine qApOO (c := c_Told) h (fun _ => rfl) leaf_c_Told rfl rfl (fun h => ?_)
    | (refine qCv h (fun r hr => F_usherlaw29_lines_ok hr) ?_ ?_ (fun r hr h => ?_); (focus (repeat' (first | exact Fz.nil | exact fz_own rfl (fun _ => rfl) pure_c_Told | (refine fz_eq rfl ?_; (focus (simp [pure_eE]; done))) | refine fz_tup ?_ | refine fz_agg ?_ | refine FzL.cons ?_ ?_ | exact FzL.nil | fail))); (focus (intro r; simp; done)))
    | refine sBS rfl ?_
    | (cases h; refine hR _ rfl _ _ ?_; (focus (repeat' (first | exact Fz.nil | exact fz_own rfl (fun _ => rfl) pure_c_Told | (refine fz_eq rfl ?_; (focus (simp [pure_eE]; done))) | refine fz_tup ?_ | refine fz_agg ?_ | refine FzL.cons ?_ ?_ | exact FzL.nil | fail))))
    | fail))

noncomputable def F_usherlaw29_JudgeMerges_y3 (x21 : (List S_Told)) (x22 : (List S_Told)) (x23 : (List UInt8)) (b24 : Bool) (x25 : (List UInt8)) (b26 : Bool) : Option (((List S_Told) × (List S_Told) × Int) ⊕ Bool) :=
(bif b24 then
(bif b26 then
((F_judge_Look x23).bind fun r27 =>
((F_judge_Look x25).bind fun r28 =>
(if r27.2 = 0 then
(if r28.2 = 0 then
iterO (F_usherlaw29_JudgeMerges_l2 x21 x22) ([], 0, 0)
else
some (.inr (true)))
else
some (.inr (true)))))
else
some (.inr (true)))
else
some (.inr (true)))
theorem F_usherlaw29_JudgeMerges_y3_ok {K : AV → Heap → Prop} {x21 : (List S_Told)} {x22 : (List S_Told)} {x23 : (List UInt8)} {b24 : Bool} {x25 : (List UInt8)} {b26 : Bool} {y : (((List S_Told) × (List S_Told) × Int) ⊕ Bool)} (h : F_usherlaw29_JudgeMerges_y3 x21 x22 x23 b24 x25 b26 = some y) (hR : ∀ q, y = .inr (q) → ∀ v H, Fz (fun _ => True) H v (B q) → K v H) {H : Heap} : b4_y3 K [(.ro (List.map c_Told x21)), (.ro (List.map c_Told x22)), (T x23), (B b24), (T x25), (B b26)] H := by
  unfold F_usherlaw29_JudgeMerges_y3 at h
  unfold b4_y3
  simp only [List.getD_cons_zero, List.getD_cons_succ]
  repeat' (first
    | refine qNeq h (fun hb h => ?_) (fun hb h => ?_)
    | refine wCt ?_
    | refine wCf ?_
    | refine wGt ?_
    | refine wGf ?_
    | refine wGn ?_
    | refine wGm ?_
    | refine wGu ?_
    | refine sPt ?_
    | refine sPf ?_
    | refine sNt ?_
    | refine sNf ?_
    | refine sEx rfl ?_
    | (refine qC h (fun r hr => F_judge_Look_ok hr) ?_ (fun r hr h => ?_); (focus (repeat' (first | exact Fz.nil | (refine fz_eq rfl ?_; (focus (simp [pure_eE]; done))) | refine fz_tup ?_ | refine fz_agg ?_ | refine FzL.cons ?_ ?_ | exact FzL.nil | fail))))
    | exact F_usherlaw29_JudgeMerges_l2_ok h hR ⟨_, rfl, (by first | exact .inl ⟨rfl, rfl⟩ | exact .inr ⟨_, _, by simp, rfl, rfl⟩ | exact .inr rfl)⟩
    | (cases h; refine hR _ rfl _ _ ?_; (focus (repeat' (first | exact Fz.nil | (refine fz_eq rfl ?_; (focus (simp [pure_eE]; done))) | refine fz_tup ?_ | refine fz_agg ?_ | refine FzL.cons ?_ ?_ | exact FzL.nil | fail))))
    | (cases b24 <;> try simp only [cond_true, cond_false] at h)
    | (cases b26 <;> try simp only [cond_true, cond_false] at h)
    | fail)

noncomputable def F_usherlaw29_JudgeMerges_y4 (x16 : (List S_Told)) (x17 : (List S_Told)) (x18 : (List UInt8)) (b19 : Bool) : Option (((List S_Told) × (List S_Told) × Int) ⊕ Bool) :=
((F_usherlaw29_lines x17).bind fun r20 =>
(if r20.2 = true then
F_usherlaw29_JudgeMerges_y3 x16 x17 x18 b19 r20.1 true
else
F_usherlaw29_JudgeMerges_y3 x16 x17 x18 b19 r20.1 false))
theorem F_usherlaw29_JudgeMerges_y4_ok {K : AV → Heap → Prop} {x16 : (List S_Told)} {x17 : (List S_Told)} {x18 : (List UInt8)} {b19 : Bool} {y : (((List S_Told) × (List S_Told) × Int) ⊕ Bool)} (h : F_usherlaw29_JudgeMerges_y4 x16 x17 x18 b19 = some y) (hR : ∀ q, y = .inr (q) → ∀ v H, Fz (fun _ => True) H v (B q) → K v H) {H : Heap} : b4_y4 K [(.ro (List.map c_Told x16)), (.ro (List.map c_Told x17)), (T x18), (B b19)] H := by
  unfold F_usherlaw29_JudgeMerges_y4 at h
  unfold b4_y4
  simp only [List.getD_cons_zero, List.getD_cons_succ]
  repeat' (first
    | refine qExB rfl h (fun hb h => ?_) (fun hb h => ?_)
    | refine sEx rfl ?_
    | (refine qC h (fun r hr => F_usherlaw29_lines_ok hr) ?_ (fun r hr h => ?_); (focus (repeat' (first | exact Fz.nil | (refine fz_eq rfl ?_; (focus (simp [pure_eE]; done))) | refine fz_tup ?_ | refine fz_agg ?_ | refine FzL.cons ?_ ?_ | exact FzL.nil | fail))))
    | exact F_usherlaw29_JudgeMerges_y3_ok h hR
    | refine joinK_in ?_
    | fail)

noncomputable def F_usherlaw29_JudgeMerges_l5 (s : ((List S_Told) × (List S_Told) × Int)) : Option (((List S_Told) × (List S_Told) × Int) ⊕ Bool) := match s with
  | (x4, x5, x6) =>
    (if x6 < (x4.length : Int) then
    iterO (F_usherlaw29_JudgeMerges_l1 x4 x5 x6) 0
    else
    ((F_usherlaw29_lines x4).bind fun r15 =>
    (if r15.2 = true then
    F_usherlaw29_JudgeMerges_y4 x4 x5 r15.1 true
    else
    F_usherlaw29_JudgeMerges_y4 x4 x5 r15.1 false)))
theorem F_usherlaw29_JudgeMerges_l5_ok {K : AV → Heap → Prop} {s : ((List S_Told) × (List S_Told) × Int)} {y : Bool} (h : iterO (F_usherlaw29_JudgeMerges_l5) s = some y) (hR : ∀ q, y = q → ∀ v H, Fz (fun _ => True) H v (B q) → K v H) {vs : List AV} {H : Heap} (hI : F_usherlaw29_JudgeMerges_I5 s vs H) : LoopK (b4_l5 K) vs H := by
  refine LoopK_iter (R := F_usherlaw29_JudgeMerges_I5) (fun s y2 vs H k1 h hI hJ5 hr => ?_) h hI
  have hR := fun q e => hR q (hr _ e).symm
  obtain ⟨x4, x5, x6⟩ := s
  obtain rfl := hI
  unfold F_usherlaw29_JudgeMerges_l5 at h
  simp only at h
  unfold b4_l5
  simp only [List.getD_cons_zero, List.getD_cons_succ]
  repeat' (first
    | refine qLss h (fun hb h => ?_) (fun hb h => ?_)
    | refine wCt ?_
    | refine wCf ?_
    | refine sLnM ?_
    | refine qExB rfl h (fun hb h => ?_) (fun hb h => ?_)
    | refine sEx rfl ?_
    | (refine qC h (fun r hr => F_usherlaw29_lines_ok hr) ?_ (fun r hr h => ?_); (focus (repeat' (first | exact Fz.nil | (refine fz_eq rfl ?_; (focus (simp [pure_eE]; done))) | refine fz_tup ?_ | refine fz_agg ?_ | refine FzL.cons ?_ ?_ | exact FzL.nil | fail))))
    | (cases h; exact hJ5 _ _ _ rfl rfl)
    | exact F_usherlaw29_JudgeMerges_l1_ok h hJ5 hR rfl
    | exact F_usherlaw29_JudgeMerges_y4_ok h hR
    | refine joinK_in ?_
    | fail)

noncomputable def F_usherlaw29_JudgeMerges (a0 : (List S_Told)) (a1 : (List S_Told)) : Option Bool :=
((F_usherlaw29_awake ).bind fun c1 => if c1 = true then
((cutI a0 0 (min (a0.length : Int) 60)).bind fun l2 =>
((cutI a1 0 (min (a1.length : Int) 60)).bind fun l3 =>
iterO (F_usherlaw29_JudgeMerges_l5) (l2, l3, 0)))
else
some (false))
theorem F_usherlaw29_JudgeMerges_ok {a0 : (List S_Told)} {a1 : (List S_Told)} {r : Bool} (h : F_usherlaw29_JudgeMerges a0 a1 = some r) : APure sys0 4 [(.ro (List.map c_Told a0)), (.ro (List.map c_Told a1))] (B r) := by
  refine APure.of_call sys_P (by kernel_rfl) (w4 (.ro (List.map c_Told a0)) (.ro (List.map c_Told a1)) _ _ ?_)
  have hR : ∀ q, r = q → ∀ v H, Fz (fun _ => True) H v (B q) → Fz (fun _ => True) H v (B r) := fun q e v H hv => by subst e; exact hv
  unfold F_usherlaw29_JudgeMerges at h
  unfold b4
  repeat' (first
    | refine wCt ?_
    | refine wCf ?_
    | refine sNt ?_
    | refine sNf ?_
    | refine sLnM ?_
    | refine sMin ?_
    | refine qSlM h (fun _ => rfl) (fun M hM h => ?_)
    | (refine qCB h (fun r hr => F_usherlaw29_awake_ok hr) ?_ (fun hr h => ?_) (fun hr h => ?_); (focus (repeat' (first | exact Fz.nil | (refine fz_eq rfl ?_; (focus (simp [pure_eE]; done))) | refine fz_tup ?_ | refine fz_agg ?_ | refine FzL.cons ?_ ?_ | exact FzL.nil | fail))))
    | exact F_usherlaw29_JudgeMerges_l5_ok h hR rfl
    | (cases h; refine hR _ rfl _ _ ?_; (focus (repeat' (first | exact Fz.nil | (refine fz_eq rfl ?_; (focus (simp [pure_eE]; done))) | refine fz_tup ?_ | refine fz_agg ?_ | refine FzL.cons ?_ ?_ | exact FzL.nil | fail))))
    | fail)

end Go.Abs
