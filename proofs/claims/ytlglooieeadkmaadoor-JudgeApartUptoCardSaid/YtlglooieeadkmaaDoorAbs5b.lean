/- Texts out of bytes. No program text. -/
import Derived.Test.YtlglooieeadkmaaDoorAbs5
import Derived.Laws.BytesArg
set_option linter.unusedVariables false
namespace Go.Abs
open Go Go.RowKit
section
variable {S : Sys} {O : Origin} {H : Heap} {α : Nat → Option Nat} {w : World}
def byI (P : Program) (s d : TypeId) : Bool := match P.underlying s, P.underlying d with
  | some (.slice e), some .string => match P.underlying e with
    | some (.int .u8) => true
    | _ => false
  | _, _ => false
theorem byI_inv {P : Program} {s d : TypeId} (h : byI P s d = true) : ∃ e, P.underlying s = some (.slice e) ∧ P.underlying d = some .string ∧ P.underlying e = some (.int .u8) := by
  unfold byI at h
  split at h
  · split at h
    · exact ⟨_, by assumption, by assumption, by assumption⟩
    · cases h
  · cases h
def bytesA : List AV → Option (List Int)
  | [] => some []
  | .v (.int .u8 n) :: r => (bytesA r).map (n :: ·)
  | _ => none
theorem bytesA_at : ∀ {l : List AV} {xs : List Int}, bytesA l = some xs → l = xs.map fun n => .v (.int .u8 n)
  | [], xs, h => by injection h with h; subst h; rfl
  | x :: r, xs, h => by
    unfold bytesA at h
    split at h
    · rename_i heq; cases heq
    · rename_i n r' heq
      injection heq with e1 e2
      subst e1 e2
      obtain ⟨ys, h1, rfl⟩ := Option.map_eq_some_iff.1 h
      rw [bytesA_at h1]
      rfl
    · cases h
def toT (xs : List Int) : AV := .v (.string (str (xs.map fun n => UInt8.ofNat n.toNat)))
def aByt (H : Heap) (x : AV) : Option AV := match x with
  | .own o ver off n sz => if cur H o ver && (sz == 1) && decide (off + n ≤ (H o).cs.length) then (bytesA (((H o).cs.drop off).take n)).map toT else none
  | .v (.slice none 0 0) => some (toT [])
  | _ => none
theorem aByt_ok (hB : Base O H α w) {s d : TypeId} {x r : AV} {u : Value} (hx : Conc w (okA O w H α) H α x u) (hI : byI S.P s d = true) (he : aByt H x = some r) : Steps S O H α w (convert s d u) r H := by
  obtain ⟨e, hs, hd, he8⟩ := byI_inv hI
  unfold aByt at he
  split at he
  · rename_i o ver off n sz
    split at he
    · rename_i hc
      simp only [Bool.and_eq_true, beq_iff_eq, decide_eq_true_eq] at hc
      obtain ⟨⟨hcur, rfl⟩, hfit⟩ := hc
      obtain ⟨xs, hxs, rfl⟩ := Option.map_eq_some_iff.1 he
      obtain ⟨c1, c2⟩ := cur_iff.1 hcur
      have hov := hx.own_inv.2 c1.symm c2
      have hro := hB.obj o c2
      have hcs := bytesA_at hxs
      have hlen : xs.length = n := by
        have := congrArg List.length hcs
        simp only [List.length_take, List.length_drop, List.length_map] at this
        omega
      unfold OwnV at hov
      unfold RelObj at hro
      cases hα : α o with
      | none =>
        rw [hα] at hov
        obtain ⟨rfl, _, rfl⟩ := hov
        have : xs = [] := List.eq_nil_of_length_eq_zero hlen
        subst this
        exact Steps.same hB (run_convert_bytes_nil w s e hs he8 0 0 d hd) (.d _ _ (.v _))
      | some b =>
        rw [hα] at hov hro
        obtain ⟨c, hnc, rfl, _, _⟩ := hov
        obtain ⟨cells, g1, g2, g3⟩ := hro
        refine Steps.same hB (run_convert_bytes_arg w s e hs he8 b off n c xs hlen (fun i hi => ?_) d hd) (.d _ _ (.v _))
        have h1 : (H o).cs[off + i]? = some (.v (.int .u8 (xs.getD i 0))) := by
          have := congrArg (·[i]?) hcs
          simp only [List.getElem?_map] at this
          rw [List.getElem?_take_of_lt hi, List.getElem?_drop] at this
          rw [this]
          simp [List.getD, List.getElem?_eq_getElem (show i < xs.length by omega)]
        have hlt : off + i < cells.size := by omega
        have h2 := g3 (off + i) _ _ h1 (Array.getElem?_eq_getElem hlt)
        have h3 := h2.v_inv
        simp only [World.cell?, g1, Option.isSome_none, Bool.false_eq_true, if_false, Array.getElem?_eq_getElem hlt, h3]
    · cases he
  · injection he with he
    subst he
    rw [hx.v_inv]
    exact Steps.same hB (run_convert_bytes_nil w s e hs he8 0 0 d hd) (.d _ _ (.v _))
  · cases he
end
end Go.Abs
