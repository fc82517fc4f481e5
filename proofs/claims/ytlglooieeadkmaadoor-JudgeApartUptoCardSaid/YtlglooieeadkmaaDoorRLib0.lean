/- Go's library at this program, for what is only computed: what the kit's contracts say, as plain functions. -/
import Derived.Test.YtlglooieeadkmaaDoorRSh
import Derived.Test.YtlglooieeadkmaaDoorVq0
import Derived.Test.YtlglooieeadkmaaDoorSys0
import Derived.WalkKit
import Derived.ProofKit
set_option linter.unusedVariables false
namespace Go.Abs
open Go Go.RowKit Go.Proofs Go.Sort
def L_Itoa (n : Int) : Option (List UInt8) := if -9223372036854775808 ≤ n ∧ n ≤ 9223372036854775807 then some (Lib.itoa n) else none
theorem below_grow {w : World} {k : Nat} {os : Array Obj} : Below w.heap.size w (grow (w.drewN k) os) :=
  ⟨rfl, rfl, rfl, by show w.heap.size ≤ (w.heap ++ os).size; rw [Array.size_append]; omega, fun i hi => by
    show (w.heap ++ os)[i]? = w.heap[i]?
    rw [Array.getElem?_append_left hi]⟩
theorem L_Itoa_ok {n : Int} {r : List UInt8} (h : L_Itoa n = some r) : APure sys0 45 [I n] (T r) := by
  unfold L_Itoa at h
  split at h
  · rename_i hn
    injection h with h
    subst h
    refine APure.lib1 (by kernel_rfl) fun w hG => ?_
    obtain ⟨_, ⟨g, _, _, ht⟩, _⟩ := hG
    refine (Tryd.strconv_Itoa n hn.1 hn.2 w ht).mono fun e w' ⟨h1, k, os, h2⟩ => ⟨h1, ?_⟩
    subst h2
    exact below_grow
  · cases h
def L_IndexByte (s : List UInt8) (n : Int) : Option Int := some (Lib.indexByte s n.toNat.toUInt8)
theorem L_IndexByte_ok {s : List UInt8} {n r : Int} (h : L_IndexByte s n = some r) : APure sys0 82 [T s, .v (.int .u8 n)] (I r) := by
  injection h with h
  subst h
  refine APure.lib2 (by kernel_rfl) fun w _ => ?_
  exact (Tryd.strings_IndexByte (str s) n w).mono fun e w' ⟨h1, h2⟩ => ⟨h1, by subst h2; exact Below.refl _ _⟩
def L_Repeat (s : List UInt8) (n : Int) : Option (List UInt8) := if 0 ≤ n ∧ n ≤ 1048576 ∧ s.length ≤ 1048576 then some (Lib.repeatL s n.toNat) else none
theorem L_Repeat_ok {s : List UInt8} {n : Int} {r : List UInt8} (h : L_Repeat s n = some r) : APure sys0 78 [T s, I n] (T r) := by
  unfold L_Repeat at h
  split at h
  · rename_i hn
    injection h with h
    subst h
    obtain ⟨c, rfl⟩ := Int.eq_ofNat_of_zero_le hn.1
    refine APure.lib2 (by kernel_rfl) fun w _ => ?_
    refine (Tryd.strings_Repeat (str s) c w (by omega) ?_).mono fun e w' ⟨h1, h2⟩ => ⟨h1, h2⟩
    rw [size_str]
    have : s.length * c ≤ 1048576 * 1048576 := Nat.mul_le_mul hn.2.2 (by omega)
    omega
  · cases h
def L_Split (s p : List UInt8) : Option (List (List UInt8)) := if s.length ≤ 1073741824 ∧ 1 ≤ p.length then some ((Lib.splitB (str p) 0 (Lib.countB (str s) (str p)) (str s)).map bs) else none
theorem L_Split_ok {s p : List UInt8} {r : List (List UInt8)} (h : L_Split s p = some r) : APure sys0 37 [T s, T p] (.ro (r.map fun x => [T x])) := by
  unfold L_Split at h
  split at h
  · rename_i hn
    injection h with h
    subst h
    refine APure.of_lib (by kernel_rfl) fun w ok vs hG hs hok hc => ?_
    rw [hc.v2]
    obtain ⟨⟨g, m, hg, hn', hm⟩, _⟩ := hG
    have e0 : g = 0 := Option.some.inj (hn'.symm.trans (by kernel_rfl))
    subst e0
    refine (Tryd.strings_Split (str s) (str p) m w (by rw [size_str]; omega) hm (by rw [size_str]; omega)).mono fun e w' ⟨h1, h2⟩ => ?_
    subst h2
    have hl : (Lib.splitB (str p) 0 (Lib.countB (str s) (str p)) (str s)).length = Lib.countB (str s) (str p) + 1 := Lib.splitB_all (str p) (by rw [size_str]; omega) 0 _ (str s) rfl
    refine ⟨_, h1, (Below.refl _ _).alloc (Nat.le_refl _) _, ?_⟩
    rw [← hl]
    generalize Lib.splitB (str p) 0 (Lib.countB (str s) (str p)) (str s) = L
    have := conc_texts (w := w.alloc (.cells ((L.map Value.string).toArray) 9)) (ok := fun b => ok b ∨ (w.heap.size ≤ b ∧ b < (w.alloc (.cells ((L.map Value.string).toArray) 9)).heap.size)) (b := w.heap.size) (c := L.length) (l := L.map bs)
      (.inr ⟨Nat.le_refl _, by simp⟩) (by simp) (fun i x hx => ?_)
    · simpa using this
    · simp only [List.getElem?_map, Option.map_eq_some_iff] at hx
      obtain ⟨y, hy, rfl⟩ := hx
      have e : (w.alloc (.cells ((L.map Value.string).toArray) 9)).heap[w.heap.size]? = some (.cells ((L.map Value.string).toArray) 9) := by
        show (w.heap.push _)[w.heap.size]? = _
        simp
      simp only [World.cell?, e]
      simp [hy]
  · cases h
def L_Join (s : List (List UInt8)) (p : List UInt8) : Option (List UInt8) := if s.length ≤ 1048576 ∧ (Lib.join s p).length ≤ 1073741824 then some (Lib.join s p) else none
theorem L_Join_ok {s : List (List UInt8)} {p r : List UInt8} (h : L_Join s p = some r) : APure sys0 43 [.ro (s.map fun x => [T x]), T p] (T r) := by
  unfold L_Join at h
  split at h
  · rename_i hn
    injection h with h
    subst h
    refine APure.of_lib (by kernel_rfl) fun w ok vs hG hs hok hc => ?_
    obtain ⟨h1, h2⟩ := hc
    obtain ⟨l⟩ := vs
    match l, h1 with
    | [x, y], _ =>
      have e1 := h2 0 _ x rfl rfl
      have e2 := h2 1 (T p) y rfl rfl
      cases e2
      rcases texts_of e1 with ⟨rfl, a, c, rfl⟩ | ⟨b, off, c, hb, hlc, rfl, hcell⟩
      · exact (Tryd.strings_Join_none a c (str p) w).mono fun e w' ⟨h1, h2⟩ => ⟨_, h1, by subst h2; exact Below.refl _ _, .v _⟩
      · have ej : (s.map str).map (·.data.toList) = s := by simp [Function.comp_def, str]
        have := Tryd.strings_Join b off c (s.map str) (str p) w (fun j x hx => ?_) (hok b hb) (by simpa using by omega) (by simpa using hlc) (by rw [ej]; simp only [str]; omega)
        · rw [ej, List.length_map] at this
          exact this.mono fun e w' ⟨h1, h2⟩ => ⟨_, h1, h2, .v _⟩
        · simp only [List.getElem?_map, Option.map_eq_some_iff] at hx
          obtain ⟨y, hy, rfl⟩ := hx
          exact hcell j y hy
  · cases h
/-! ### words.Words -/
theorem words1 (x : Int) (w : World) : Calls Tryd.prog 48 #[.int .i32 x] w fun e w' => e = .returned (.bool (x == 32)) ∧ w' = w := by
  go_enter Tryd.func48, Tryd.ntmps48
  go_wp2
  all_goals go_ret
  all_goals simp
def isSp (n : Nat) : Bool := (n : Int) == 32
def L_Fields (s : List UInt8) : Option (List (List UInt8)) := if s.length ≤ 1073741824 then some ((Lib.goFieldsP isSp (str s)).map bs) else none
theorem L_Fields_ok {s : List UInt8} {r : List (List UInt8)} (h : L_Fields s = some r) : APure sys0 47 [T s, .fn 48 []] (.ro (r.map fun x => [T x])) := by
  unfold L_Fields at h
  split at h
  · rename_i hn
    injection h with h
    subst h
    refine APure.of_lib (by kernel_rfl) fun w ok vs hG hs hok hc => ?_
    obtain ⟨h1, h2⟩ := hc
    obtain ⟨l⟩ := vs
    match l, h1 with
    | [x, y], _ =>
      have e1 := h2 0 (T s) x rfl rfl
      have e2 := h2 1 (.fn 48 []) y rfl rfl
      cases e1
      obtain ⟨vs, hl, rfl⟩ : ∃ vs : Array Value, ([] : List AV).length = vs.size ∧ y = .func (.func 48) #[] vs := by cases e2; exact ⟨_, by assumption, rfl⟩
      have : vs = #[] := by
        obtain ⟨l⟩ := vs
        cases l with
        | nil => rfl
        | cons _ _ => simp at hl
      subst this
      refine (Tryd.strings_FieldsFunc 48 #[] (fun vs w => enters_run (by kernel_rfl) vs w) isSp (str s) w (by rw [size_str]; omega) (fun W x _ => ?_)).mono fun e w' ⟨A, h1, hA, hrow, hb⟩ => ?_
      · exact (words1 x W).mono fun e w' ⟨h1, h2⟩ => ⟨h1, 0, h2⟩
      · refine ⟨_, h1, hb, ?_⟩
        obtain ⟨hrl, hrow⟩ := hrow
        rcases hrow with ⟨h3, _⟩ | ⟨g, cap, cur, h3, hg, hblk, hcap, _, hsz, htake⟩
        · simp at h3
        · injection h3 with h3 h4 h5
          injection h3 with h3
          injection h3 with h3
          subst h3 h5
          generalize Lib.goFieldsP isSp (str s) = L at *
          have := conc_texts (w := w') (ok := fun b => ok b ∨ (w.heap.size ≤ b ∧ b < w'.heap.size)) (b := A) (c := L.length) (l := L.map bs) (.inr ⟨hA, (Array.getElem?_eq_some_iff.1 hblk).1⟩) (by simp) (fun i x hx => ?_)
          · simpa using this
          · simp only [List.getElem?_map, Option.map_eq_some_iff] at hx
            obtain ⟨y, hy, rfl⟩ := hx
            have hil := (List.getElem?_eq_some_iff.1 hy).1
            simp only [World.cell?, hblk]
            have e : (cur.toList.take (L.length * 1))[i]? = some (.string y) := by rw [htake]; simp [hy]
            rw [List.getElem?_take_of_lt (by omega)] at e
            simpa using e
  · cases h
/-! ### bits.TrailingZeros at 16 -/
theorem tz64_walk (w : World) (hc : w.cell? ⟨5, 15, none⟩ = some (.int .u8 4)) : Calls Tryd.prog 116 #[.int .u64 16] w fun e w' => e = .returned (.int .i64 4) ∧ w' = w := by
  have hi : (IntKind.u64.wrap (bits BinOp.and IntKind.u64 16 (IntKind.u64.wrap (-16)) * 285870213051353865) / 288230376151711744).toNat = 15 := by decide +kernel
  have h0 : 0 ≤ IntKind.u64.wrap (bits BinOp.and IntKind.u64 16 (IntKind.u64.wrap (-16)) * 285870213051353865) / 288230376151711744 ∧ IntKind.u64.wrap (bits BinOp.and IntKind.u64 16 (IntKind.u64.wrap (-16)) * 285870213051353865) / 288230376151711744 < 64 := by decide +kernel
  go_enter Tryd.func116, Tryd.ntmps116
  go_wp2
  all_goals go_ret
  all_goals exact ⟨rfl, rfl⟩
def L_TrailingZeros64 (n : Int) : Option Int := if n = 16 then some 4 else none
theorem L_TrailingZeros64_ok {n r : Int} (h : L_TrailingZeros64 n = some r) : APure sys0 116 [.v (.int .u64 n)] (I r) := by
  unfold L_TrailingZeros64 at h
  split at h
  · rename_i hn
    injection h with h
    subst hn h
    refine APure.lib1 (by kernel_rfl) fun w hG => ?_
    obtain ⟨_, _, g, _, hg, hc⟩ := hG
    have e0 : g = 5 := Option.some.inj (hg.symm.trans (by kernel_rfl))
    subst e0
    exact (tz64_walk w hc).mono fun e w' ⟨h1, h2⟩ => ⟨h1, by subst h2; exact Below.refl _ _⟩
  · cases h
end Go.Abs
