import Derived.Test.YtlglooieeadkmaaDoorVq0
import Derived.Test.YtlglooieeadkmaaDoorSys0
set_option linter.unusedVariables false
set_option linter.unusedSimpArgs false
set_option maxRecDepth 100000
set_option maxHeartbeats 4000000
namespace Go.Abs
open Go Go.RowKit Go.Proofs
def eE : Err → AV
  | .nil => .v .nilIface
  | .no n => .iface 26 (I n)
  | .fault l w e => .iface 103 (.agg [I l, T w, eE e])
@[simp] theorem pure_eE (e : Err) : Pure (eE e) := by
  induction e with
  | nil => simp [eE]
  | no n => simp [eE]
  | fault l w e ih => simp [eE, ih]
@[simp] theorem flat_eE (e : Err) : Flat (eE e) := by
  induction e with
  | nil => simp [eE]
  | no n => simp [eE]
  | fault l w e ih => simp [eE, ih]
structure S_Told where
  At : Int
  Kind : Int
  ID : Int
  Level : (List UInt8)
  Seats : Int
  Why : Int
  Digest : Int
  deriving DecidableEq
structure S_Entry where
  ID : Int
  Phase : Int
  Level : (List UInt8)
  deriving DecidableEq
def cT (x : (List UInt8)) : List AV := [(T x)]
theorem pure_cT : ∀ e, ∀ x ∈ cT e, Pure x := by intro e; simp [cT]
theorem leaf_cT : ∀ H e, (cT e).all (leaf H) = true := fun _ _ => rfl
@[simp] theorem pa_cT (e) : Pure (.agg (cT e)) := by simp [cT]
@[simp] theorem fa_cT (e) : Flat (.agg (cT e)) := by simp [cT]
def c_Told (x : S_Told) : List AV := [(I x.At), (I x.Kind), (I x.ID), (T x.Level), (I x.Seats), (I x.Why), (.v (.int .u64 x.Digest))]
theorem pure_c_Told : ∀ e, ∀ x ∈ c_Told e, Pure x := by intro e; simp [c_Told]
theorem leaf_c_Told : ∀ H e, (c_Told e).all (leaf H) = true := fun _ _ => rfl
@[simp] theorem pa_c_Told (e) : Pure (.agg (c_Told e)) := by simp [c_Told]
@[simp] theorem fa_c_Told (e) : Flat (.agg (c_Told e)) := by simp [c_Told]
def c_Entry (x : S_Entry) : List AV := [(I x.ID), (I x.Phase), (T x.Level)]
theorem pure_c_Entry : ∀ e, ∀ x ∈ c_Entry e, Pure x := by intro e; simp [c_Entry]
theorem leaf_c_Entry : ∀ H e, (c_Entry e).all (leaf H) = true := fun _ _ => rfl
@[simp] theorem pa_c_Entry (e) : Pure (.agg (c_Entry e)) := by simp [c_Entry]
@[simp] theorem fa_c_Entry (e) : Flat (.agg (c_Entry e)) := by simp [c_Entry]
theorem structE_S_Told (a b : S_Told) : a = b ↔ a.At = b.At ∧ a.Kind = b.Kind ∧ a.ID = b.ID ∧ a.Level = b.Level ∧ a.Seats = b.Seats ∧ a.Why = b.Why ∧ a.Digest = b.Digest := by
  cases a; cases b; simp
theorem eqT_Told (a b : S_Told) : bn (.flat [.i, .i, .i, .s, .i, .i, .i]) .eql (.agg (c_Told a)) (.agg (c_Told b)) = some (B (decide (a = b))) := by
  rw [bnF_eql (xs := [(.int .i64 a.At), (.int .i64 a.Kind), (.int .i64 a.ID), (.string (str a.Level)), (.int .i64 a.Seats), (.int .i64 a.Why), (.int .u64 a.Digest)]) (ys := [(.int .i64 b.At), (.int .i64 b.Kind), (.int .i64 b.ID), (.string (str b.Level)), (.int .i64 b.Seats), (.int .i64 b.Why), (.int .u64 b.Digest)]) rfl rfl rfl]
  congr 2
  rw [Bool.eq_iff_iff]
  simp [strB, structE_S_Told]
theorem eqN_Told (a b : S_Told) : bn (.flat [.i, .i, .i, .s, .i, .i, .i]) .neq (.agg (c_Told a)) (.agg (c_Told b)) = some (B (!decide (a = b))) := bnF_neq (eqT_Told a b)
theorem structE_S_Entry (a b : S_Entry) : a = b ↔ a.ID = b.ID ∧ a.Phase = b.Phase ∧ a.Level = b.Level := by
  cases a; cases b; simp
theorem eqT_Entry (a b : S_Entry) : bn (.flat [.i, .i, .s]) .eql (.agg (c_Entry a)) (.agg (c_Entry b)) = some (B (decide (a = b))) := by
  rw [bnF_eql (xs := [(.int .i64 a.ID), (.int .i64 a.Phase), (.string (str a.Level))]) (ys := [(.int .i64 b.ID), (.int .i64 b.Phase), (.string (str b.Level))]) rfl rfl rfl]
  congr 2
  rw [Bool.eq_iff_iff]
  simp [strB, structE_S_Entry]
theorem eqN_Entry (a b : S_Entry) : bn (.flat [.i, .i, .s]) .neq (.agg (c_Entry a)) (.agg (c_Entry b)) = some (B (!decide (a = b))) := bnF_neq (eqT_Entry a b)
def ck0 (n : Nat) : Bool := [3, 4, 7, 8, 9, 16, 17, 18, 19, 21, 29, 36, 37, 38, 39, 40, 41, 43, 45, 48, 57, 58, 59, 61, 62, 63, 64, 76, 77, 78, 82, 83, 84, 90, 101, 112, 113, 115, 116].contains n
def z31 : List AV := [(I 0), (I 0), (I 0), (T []), (I 0), (I 0), (.v (.int .u64 0))]
def z91 : List AV := [(I 0), (I 0), (T [])]
def z149 : List AV := [(.v (.int .u8 0)), (.v (.int .u8 0)), (.v (.int .u8 0)), (.v (.int .u8 0)), (.v (.int .u8 0)), (.v (.int .u8 0)), (.v (.int .u8 0)), (.v (.int .u8 0)), (.v (.int .u8 0)), (.v (.int .u8 0)), (.v (.int .u8 0)), (.v (.int .u8 0)), (.v (.int .u8 0)), (.v (.int .u8 0)), (.v (.int .u8 0)), (.v (.int .u8 0)), (.v (.int .u8 0)), (.v (.int .u8 0)), (.v (.int .u8 0)), (.v (.int .u8 0)), (.v (.int .u8 0)), (.v (.int .u8 0)), (.v (.int .u8 0)), (.v (.int .u8 0))]
def z162 : List AV := [(.v (.int .u8 0)), (.v (.int .u8 0)), (.v (.int .u8 0)), (.v (.int .u8 0)), (.v (.int .u8 0)), (.v (.int .u8 0)), (.v (.int .u8 0)), (.v (.int .u8 0)), (.v (.int .u8 0)), (.v (.int .u8 0)), (.v (.int .u8 0)), (.v (.int .u8 0)), (.v (.int .u8 0)), (.v (.int .u8 0)), (.v (.int .u8 0)), (.v (.int .u8 0)), (.v (.int .u8 0)), (.v (.int .u8 0)), (.v (.int .u8 0)), (.v (.int .u8 0)), (.v (.int .u8 0)), (.v (.int .u8 0)), (.v (.int .u8 0)), (.v (.int .u8 0)), (.v (.int .u8 0)), (.v (.int .u8 0)), (.v (.int .u8 0)), (.v (.int .u8 0)), (.v (.int .u8 0)), (.v (.int .u8 0)), (.v (.int .u8 0)), (.v (.int .u8 0)), (.v (.int .u8 0)), (.v (.int .u8 0)), (.v (.int .u8 0)), (.v (.int .u8 0)), (.v (.int .u8 0)), (.v (.int .u8 0)), (.v (.int .u8 0)), (.v (.int .u8 0)), (.v (.int .u8 0)), (.v (.int .u8 0)), (.v (.int .u8 0)), (.v (.int .u8 0)), (.v (.int .u8 0)), (.v (.int .u8 0)), (.v (.int .u8 0)), (.v (.int .u8 0)), (.v (.int .u8 0)), (.v (.int .u8 0)), (.v (.int .u8 0)), (.v (.int .u8 0)), (.v (.int .u8 0)), (.v (.int .u8 0)), (.v (.int .u8 0)), (.v (.int .u8 0)), (.v (.int .u8 0)), (.v (.int .u8 0)), (.v (.int .u8 0)), (.v (.int .u8 0)), (.v (.int .u8 0)), (.v (.int .u8 0)), (.v (.int .u8 0)), (.v (.int .u8 0)), (.v (.int .u8 0))]
def bl31 : List (Nat × Nat) × List AV := ([(0, 1), (1, 1), (2, 1), (3, 1), (4, 1), (5, 1), (6, 1)], z31)
def bl91 : List (Nat × Nat) × List AV := ([(0, 1), (1, 1), (2, 1)], z91)
end Go.Abs
