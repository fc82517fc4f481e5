/- JudgeApart: witness, row, card. -/
import Derived.Test.YtlglooieeadkmaaDoorRCard
set_option linter.unusedVariables false
set_option maxRecDepth 100000
namespace Go.Proofs.YtlglooieeadkmaaDoor.judgeApart
open Go.ChangeShapes Go.WideShapes Go.ChangeAt Go.RowKit
def lits : DataW Unit → List Value
  | .lit (.int k n) => [.int k n]
  | _ => []
def one : DataW Unit → List Value
  | .agg l => l.flatMap lits
  | _ => []
def two : DataW Unit → List Value
  | .agg l => l.flatMap one
  | _ => []
def put (cs : List Value) : Obj → Obj
  | .cells _ t fr => .cells cs.toArray t fr
  | o => o
noncomputable def laidWorld (os : Os) : World :=
  { World.holding Tryd.prog os ⟨#[], #[], []⟩ with heap := (((((World.holding Tryd.prog os ⟨#[], #[], []⟩).heap.modify 1 (put (one Rows.laid_internal_strconv_uint64pow10))).modify 2 (put (one Rows.laid_unicode_utf8_first))).modify 3 (put (two Rows.laid_unicode_utf8_acceptRanges))).modify 4 (put (one Rows.laid_math_bits_deBruijn32tab))).modify 5 (put (one Rows.laid_math_bits_deBruijn64tab)) }
def wargs : Array Value := #[.slice none 0 0, .int .i64 0]
theorem laid_met (os : Os) : laidMet Tryd.prog Rows.judgeApartUptoRow.laid ((laidWorld os).forCall (fun _ _ => 0) ⟨#[], wargs, []⟩).memory :=
  laidMet_of_run' 8 (by kernel_rfl) (by kernel_rfl)
theorem reads (os : Os) {H : Type} (enc : TypeId × Value → H) : ∃ places, DataW.whole enc Tryd.prog ((laidWorld os).forCall (fun _ _ => 0) ⟨#[], wargs, []⟩).memory Tryd.f3.params.toList Rows.judgeApartSpec.vars false wargs.toList 8 = some ([.nil, .lit (.int .i64 0)], [], places) :=
  ⟨[], by kernel_rfl⟩
theorem liftedUpto (os : Os) (started : os.Started) (H : Type) (enc : TypeId × Value → H) (F : Stop.Interp) :
    ReturnsInHanded {} Tryd.checked os 3 .any ((Rows.OpenSpec.upto Rows.judgeApartSpec).preRow enc Tryd.prog Tryd.f3 Rows.judgeApartUptoRow.domain false Rows.judgeApartUptoRow.laid) (((Rows.OpenSpec.upto Rows.judgeApartSpec).at F).post enc Tryd.prog Tryd.f3 false true false false) := by
  obtain ⟨places, hx⟩ := reads os enc
  refine returnsInHanded_of_row (C := Tryd.checked) (s := Rows.OpenSpec.upto Rows.judgeApartSpec) own started (by kernel_rfl) Tryd.func3
    (witness_row_at (enc := enc) (C := Tryd.checked) false (laidWorld os) wargs rfl (by kernel_rfl) (by kernel_rfl) (by kernel_rfl)
      (OpenSpec.preRow_of_cond 8 hx (by kernel_rfl) (fun k hk => by cases hk; kernel_rfl) (by kernel_rfl) (laid_met os))) ?_
  intro W base args ds gs before hval hW _ hcond _ hL hs _
  exact contract H enc W base args ds gs before hval hW (hcond _ rfl) hL hs
theorem saidUpto : Rows.JudgeApartUptoSaid :=
  OpenClaim.holds_of_cond 3 Tryd.f3 rfl rfl rfl rfl rfl rfl rfl ⟨rfl, rfl, rfl, rfl, rfl⟩ rfl rfl rfl rfl rfl (by kernel_rfl) Tryd.func3 (by kernel_rfl)
    (of_decide_eq_true (by kernel_rfl)) (by unfold Func.isWrapper; first | (rw [if_pos (by decide +kernel)]; kernel_rfl) | (rw [if_neg (by decide +kernel)]; exact ⟨rfl, rfl⟩))
    (fun os started H enc _ F => by rw [OpenClaim.pre_eq_preRow]; exact liftedUpto os started H enc F)
theorem plain (f : FuncId) (fn : Func) (hf : Tryd.pinned.checked.prog.funcNamed "usher/usherlaw29.JudgeApart" = some f) (hfn : Tryd.pinned.checked.prog.funcs[f]? = some fn) :
    false = Tryd.pinned.checked.prog.looks [] ∧ ∀ (j : Nat) t, fn.params[j]? = some t → Tryd.pinned.checked.prog.wantsStandIn t = false := by
  obtain rfl : f = 3 := Option.some.inj ((show Tryd.prog.funcNamed "usher/usherlaw29.JudgeApart" = some 3 by kernel_rfl).symm.trans hf) |>.symm
  obtain rfl : fn = Tryd.f3 := (Option.some.inj (Tryd.func3.symm.trans hfn)).symm
  refine ⟨by kernel_rfl, fun j t ht => ?_⟩
  rw [Tryd.params3] at ht
  match j with
  | 0 => obtain rfl : 22 = t := by simpa using ht
         exact (show Tryd.prog.wantsStandIn 22 = false by kernel_rfl)
  | 1 => obtain rfl : 3 = t := by simpa using ht
         exact (show Tryd.prog.wantsStandIn 3 = false by kernel_rfl)
  | j + 2 => simp at ht
/-- ████ THE SECOND FORM's CARD ████ -/
theorem cardUpto : Rows.JudgeApartUptoCardSaid :=
  Claim7.holds_tied_plain_at .later [] _ _ _ _ saidUpto (fun _ h => by cases h) (by kernel_rfl) (fun _ h => by cases h) judgeApartUpto_row_tie rfl ⟨rfl, rfl⟩ (by kernel_rfl) rfl plain (by kernel_rfl)
end Go.Proofs.YtlglooieeadkmaaDoor.judgeApart
