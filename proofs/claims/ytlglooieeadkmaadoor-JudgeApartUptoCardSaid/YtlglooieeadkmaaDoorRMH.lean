import Derived.Test.YtlglooieeadkmaaDoorRT
import Derived.Test.YtlglooieeadkmaaDoorRB1
import Derived.Test.YtlglooieeadkmaaDoorRB2
import Derived.Test.YtlglooieeadkmaaDoorRB3
import Derived.Test.YtlglooieeadkmaaDoorRB4
import Derived.Test.YtlglooieeadkmaaDoorRML
import Derived.Test.YtlglooieeadkmaaDoorRF1

set_option linter.unusedVariables false
set_option linter.unusedSimpArgs false
set_option maxRecDepth 100000
set_option maxHeartbeats 4000000
namespace Go.Abs
open Go Go.RowKit Go.Proofs

/- strconv.FormatUint at base 16. -/
def hexTab : List UInt8 := [48, 49, 50, 51, 52, 53, 54, 55, 56, 57, 97, 98, 99, 100, 101, 102, 103, 104, 105, 106, 107, 108, 109, 110, 111, 112, 113, 114, 115, 116, 117, 118, 119, 120, 121, 122]
def hexd (n : Nat) : UInt8 := hexTab.getD n 0
def hexs : Nat → Nat → List UInt8 → List UInt8
  | 0, u, acc => hexd u :: acc
  | f + 1, u, acc => if 16 ≤ u then hexs f (u / 16) (hexd (u % 16) :: acc) else hexd u :: acc
theorem hexTab_at {n : Nat} (h : n < 36) : hexTab[n]? = some (hexd n) := by
  unfold hexd List.getD
  rw [List.getElem?_eq_getElem (show n < hexTab.length from h)]
  rfl
def cU (c : UInt8) : AV := .v (.int .u8 c.toNat)
def hC : List AV := (List.replicate 65 (AV.v (.int .u8 0)))
theorem and15 (u : Nat) (hu : u < 18446744073709551616) : IntKind.u64.wrap ((BitVec.ofInt IntKind.u64.bits (u : Int) &&& BitVec.ofInt IntKind.u64.bits 15).toNat) = ((u % 16 : Nat) : Int) := by
  have e1 : (BitVec.ofInt 64 (u : Int) &&& BitVec.ofInt 64 15).toNat = u % 16 := by
    rw [BitVec.toNat_and, BitVec.ofInt_natCast]
    have : (BitVec.ofInt 64 15).toNat = 15 := rfl
    rw [this, BitVec.toNat_ofNat, Nat.mod_eq_of_lt hu]
    exact Nat.and_two_pow_sub_one_eq_mod u 4
  show IntKind.u64.wrap (((BitVec.ofInt 64 (u : Int) &&& BitVec.ofInt 64 15).toNat : Nat) : Int) = _
  rw [e1]
  exact IntWalk.u64_in _ ⟨by omega, by omega⟩
theorem sIaP {o v len n : Nat} {i : IntKind} {H : Heap} {k : AV → Prop} (hc : cur H o v = true) (hn : n < len) (h : k (.ptr o v (0 + n * 1))) : pK (ia (.ar len 1) H (.ptr o v 0) (.v (.int i n))) k := by
  refine pK_i ?_ h
  show aIdxAr H len 1 (.ptr o v 0) (n : Int) = _
  unfold aIdxAr
  rw [if_pos (by omega)]
  simp only [hc, if_true]
  rfl

theorem enc_set {cs : List AV} {acc : List UInt8} {c : UInt8} (hl : cs.length = 65) (ha : acc.length < 65) (hd : cs.drop (65 - acc.length) = acc.map cU) :
    (cs.take (0 + (65 - acc.length - 1) * 1) ++ [cU c] ++ cs.drop (0 + (65 - acc.length - 1) * 1 + 1)).length = 65 ∧
    (cs.take (0 + (65 - acc.length - 1) * 1) ++ [cU c] ++ cs.drop (0 + (65 - acc.length - 1) * 1 + 1)).drop (65 - (c :: acc).length) = (c :: acc).map cU := by
  have e1 : 0 + (65 - acc.length - 1) * 1 = 65 - acc.length - 1 := by omega
  have e2 : 65 - acc.length - 1 + 1 = 65 - acc.length := by omega
  rw [e1, e2]
  constructor
  · simp only [List.length_append, List.length_take, List.length_drop, List.length_singleton, hl]
    omega
  · rw [List.length_cons, show 65 - (acc.length + 1) = 65 - acc.length - 1 by omega, List.append_assoc, List.drop_append, List.drop_eq_nil_of_le (by rw [List.length_take]; omega), List.length_take, hl, hd]
    rw [show 65 - acc.length - 1 - min (65 - acc.length - 1) 65 = 0 by omega]
    rfl
theorem fb_loop {v : Nat} {K3 : AV → Heap → Prop} {k3 : List AV → Heap → Prop} {J : List AV → Heap → Prop} {fin : List UInt8} (hJ : ∀ vs H, b101_l1 K3 k3 J vs H → J vs H)
    (h3 : ∀ (H : Heap) (cs : List AV), H 12 = ⟨v, true, cs, 162⟩ → cs.length = 65 → cs.drop (65 - fin.length) = fin.map cU → k3 [N0, B false, B false, N0, T [], .ptr 12 v 0, I ((65 - fin.length : Nat) : Int)] H) :
    ∀ (f u : Nat) (acc : List UInt8) (H : Heap) (cs : List AV), u < 16 ^ (f + 1) → u < 18446744073709551616 → acc.length + f + 1 ≤ 65 → H 12 = ⟨v, true, cs, 162⟩ → cs.length = 65 → cs.drop (65 - acc.length) = acc.map cU → hexs f u acc = fin →
      J [N0, .v (.int .u64 u), B false, B false, N0, T [], .ptr 12 v 0, I ((65 - acc.length : Nat) : Int), .v (.int .u64 4), .v (.int .u64 16), .v (.int .u64 15)] H := by
  intro f
  have last : ∀ (u : Nat) (acc : List UInt8) (H : Heap) (cs : List AV), u < 16 → acc.length + 1 ≤ 65 → H 12 = ⟨v, true, cs, 162⟩ → cs.length = 65 → cs.drop (65 - acc.length) = acc.map cU → hexd u :: acc = fin →
      J [N0, .v (.int .u64 u), B false, B false, N0, T [], .ptr 12 v 0, I ((65 - acc.length : Nat) : Int), .v (.int .u64 4), .v (.int .u64 16), .v (.int .u64 15)] H := by
    intro u acc H cs hu ha hH hl hd hf
    refine hJ _ _ ?_
    unfold b101_l1
    simp only [List.getD_cons_zero, List.getD_cons_succ]
    refine sGeq (fun h => by omega) (fun _ => wCf ?_)
    refine sSub' (by omega) ?_
    refine sIxK (c := hexd u) (by rw [Int.toNat_natCast]; exact hexTab_at (by omega)) (by omega) ?_
    rw [show ((65 - acc.length : Nat) : Int) - 1 = ((65 - acc.length - 1 : Nat) : Int) by omega]
    refine sIaP (by simp [cur, hH]) (by omega) ?_
    refine sStP (cs := [cU (hexd u)]) (by simp [cur, hH]) rfl rfl rfl (by rw [Nat.ble_eq]; simp only [hH, hl]; omega) ?_
    obtain ⟨e1, e2⟩ := enc_set (c := hexd u) hl (by omega) hd
    have := h3 (upd H 12 ⟨v, true, cs.take (0 + (65 - acc.length - 1) * 1) ++ [cU (hexd u)] ++ cs.drop (0 + (65 - acc.length - 1) * 1 + 1), 162⟩) _ (upd_same _ _ _) e1 (by rw [← hf]; exact e2)
    rw [← hf, List.length_cons, show 65 - (acc.length + 1) = 65 - acc.length - 1 by omega] at this
    rw [hH]
    exact this
  induction f with
  | zero =>
    intro u acc H cs hu hu2 ha hH hl hd hf
    exact last u acc H cs (by simpa using hu) (by omega) hH hl hd hf
  | succ f ih =>
    intro u acc H cs hu hu2 ha hH hl hd hf
    by_cases h16 : 16 ≤ u
    · rw [hexs, if_pos h16] at hf
      refine hJ _ _ ?_
      unfold b101_l1
      simp only [List.getD_cons_zero, List.getD_cons_succ]
      refine sGeq (fun _ => wCt ?_) (fun h => by omega)
      refine sSub' (by omega) ?_
      refine sAnd ?_
      rw [and15 u hu2]
      refine sIxK (c := hexd (u % 16)) (by rw [Int.toNat_natCast]; exact hexTab_at (by omega)) (by omega) ?_
      rw [show ((65 - acc.length : Nat) : Int) - 1 = ((65 - acc.length - 1 : Nat) : Int) by omega]
      refine sIaP (by simp [cur, hH]) (by omega) ?_
      refine sStP (cs := [cU (hexd (u % 16))]) (by simp [cur, hH]) rfl rfl rfl (by rw [Nat.ble_eq]; simp only [hH, hl]; omega) ?_
      obtain ⟨e1, e2⟩ := enc_set (c := hexd (u % 16)) hl (by omega) hd
      refine sShr (by omega) ?_
      have e4 : (u : Int).fdiv (2 ^ (min (4 : Int).toNat IntKind.u64.bits)) = ((u / 16 : Nat) : Int) := by
        show (u : Int).fdiv 16 = _
        rw [Int.fdiv_eq_ediv_of_nonneg _ (by omega)]
        omega
      rw [e4]
      have := ih (u / 16) (hexd (u % 16) :: acc) (upd H 12 ⟨v, true, cs.take (0 + (65 - acc.length - 1) * 1) ++ [cU (hexd (u % 16))] ++ cs.drop (0 + (65 - acc.length - 1) * 1 + 1), 162⟩) _ (by
        rw [Nat.pow_succ] at hu
        exact Nat.div_lt_of_lt_mul (by omega)) (by omega) (by simp; omega) (upd_same _ _ _) e1 e2 hf
      rw [List.length_cons, show 65 - (acc.length + 1) = 65 - acc.length - 1 by omega] at this
      rw [hH]
      exact this
    · rw [hexs, if_neg h16] at hf
      exact last u acc H cs (by omega) (by omega) hH hl hd hf
def F_strconv_FormatUint (n b : Int) : Option (List UInt8) := if b = 16 ∧ 0 ≤ n ∧ n < 18446744073709551616 then some (hexs 15 n.toNat []) else none
theorem hexs_len : ∀ (f u : Nat) (acc : List UInt8), acc.length + 1 ≤ (hexs f u acc).length ∧ (hexs f u acc).length ≤ acc.length + f + 1
  | 0, u, acc => by simp [hexs]
  | f + 1, u, acc => by
    unfold hexs
    split
    · have := hexs_len f (u / 16) (hexd (u % 16) :: acc)
      simp only [List.length_cons] at this
      omega
    · simp
theorem bytesA_enc : ∀ l : List UInt8, bytesA (l.map cU) = some (l.map fun c => (c.toNat : Int))
  | [] => rfl
  | c :: r => by
    show (bytesA (r.map cU)).map (((c.toNat : Int)) :: ·) = _
    rw [bytesA_enc r]
    rfl
theorem fb_ok {u : Nat} (hu : u < 18446744073709551616) {H : Heap} {K : AV → Heap → Prop} (hK : ∀ H, K (.tuple [N0, T (hexs 15 u [])]) H) : ACall sys0 101 [N0, .v (.int .u64 u), I 16, B false, B false] H K := by
  refine w101 _ _ _ _ _ H K ?_
  unfold b101
  refine joinK_in ?_
  refine sLss (fun h => by omega) (fun _ => ?_)
  refine wGf ?_
  refine wGf ?_
  refine sEql (fun h => by omega) (fun _ => ?_)
  refine sPf ?_
  refine wGf ?_
  refine wGf ?_
  refine sGtr (fun h => by omega) (fun _ => ?_)
  refine sPf (wCf ?_)
  unfold b101_y6
  simp only [List.getD_cons_zero, List.getD_cons_succ]
  refine sAl ?_
  refine joinK_in (wCf ?_)
  unfold b101_y5
  simp only [List.getD_cons_zero, List.getD_cons_succ]
  refine joinK_in ?_
  refine cPure (r := B true) (F_strconv_isPowerOfTwo_ok (by unfold F_strconv_isPowerOfTwo; decide +kernel)) (by simp) (wCt ?_)
  refine sCv ?_
  refine cPure (r := I 4) (F_bits_TrailingZeros_ok (by unfold F_bits_TrailingZeros; decide +kernel)) (by simp) ?_
  refine sCv ?_
  refine sCv ?_
  refine sCv ?_
  refine sSub ?_
  intro J hJ
  refine fb_loop (fin := hexs 15 u []) hJ (fun H2 cs hH hl hd => ?_) 15 u [] _ _ (by simpa using hu) hu (by simp) (upd_same _ _ _) (by rfl) (by rfl) rfl
  obtain ⟨hn1, hn2⟩ := hexs_len 15 u []
  simp only [List.length_nil] at hn1 hn2
  unfold b101_y4
  simp only [List.getD_cons_zero, List.getD_cons_succ]
  refine joinK_in (wCf ?_)
  unfold b101_y3
  simp only [List.getD_cons_zero, List.getD_cons_succ]
  refine wCf ?_
  refine pK_i (x := .own 12 ((H 12).ver + 1) (0 + (65 - (hexs 15 u []).length) * 1) (65 - (65 - (hexs 15 u []).length)) 1) ?_ ?_
  · simp only [sl, cutP, bI, Option.bind_some]
    rw [if_pos (by simp [cur, hH, hl]; omega)]
    simp
  refine pK_i (x := T (hexs 15 u [])) ?_ (hK _)
  simp only [aByt]
  rw [if_pos (by simp [cur, hH, hl] <;> omega), hH, show 0 + (65 - (hexs 15 u []).length) * 1 = 65 - (hexs 15 u []).length by omega]
  simp only
  rw [hd, List.take_of_length_le (by simp; omega), bytesA_enc]
  simp only [Option.map_some, toT, List.map_map]
  have : ((fun n : Int => UInt8.ofNat n.toNat) ∘ fun c : UInt8 => ((c.toNat : Nat) : Int)) = id := by
    funext c
    simp
  rw [this, List.map_id]
theorem F_strconv_FormatUint_ok {n b : Int} {r : List UInt8} (h : F_strconv_FormatUint n b = some r) : APure sys0 77 [.v (.int .u64 n), I b] (T r) := by
  unfold F_strconv_FormatUint at h
  split at h
  · rename_i hn
    obtain ⟨rfl, h0, h1⟩ := hn
    injection h with h
    subst h
    obtain ⟨u, rfl⟩ := Int.eq_ofNat_of_zero_le h0
    refine APure.of_call sys_P (by kernel_rfl) (w77 _ _ _ _ ?_)
    unfold b77
    refine w90 _ _ _ _ ?_
    unfold b90
    refine sEql (fun h => by omega) (fun _ => wCf ?_)
    refine fb_ok (by omega) fun H => ?_
    refine sEx rfl ?_
    refine sEx rfl ?_
    exact fz_eq rfl (by simp)
  · cases h
end Go.Abs
