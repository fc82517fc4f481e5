/- Steps of a walk that goes beside a plain Lean function. No program text. -/
import Derived.Test.YtlglooieeadkmaaDoorVc0
set_option linter.unusedVariables false
set_option linter.unusedSimpArgs false
namespace Go.Abs
open Go Go.RowKit

/-! ### rounds -/
section
variable {σ ρ : Type}
def iterN (f : σ → Option (σ ⊕ ρ)) : Nat → σ → Option ρ
  | 0, _ => none
  | n + 1, s => match f s with
    | none => none
    | some (.inr r) => some r
    | some (.inl s') => iterN f n s'
theorem iterN_mono {f : σ → Option (σ ⊕ ρ)} : ∀ {n m : Nat} {s : σ} {r : ρ}, iterN f n s = some r → n ≤ m → iterN f m s = some r
  | 0, _, _, _, h, _ => by cases h
  | n + 1, 0, _, _, _, hm => by omega
  | n + 1, m + 1, s, r, h, hm => by
    unfold iterN at h ⊢
    split at h
    · cases h
    · exact h
    · exact iterN_mono h (by omega)
open Classical in
noncomputable def iterO (f : σ → Option (σ ⊕ ρ)) (s : σ) : Option ρ := if h : ∃ r, ∃ n, iterN f n s = some r then some h.choose else none
theorem iterO_iff {f : σ → Option (σ ⊕ ρ)} {s : σ} {r : ρ} : iterO f s = some r ↔ ∃ n, iterN f n s = some r := by
  unfold iterO
  constructor
  · intro h
    split at h
    · rename_i hx
      injection h with h
      subst h
      exact hx.choose_spec
    · cases h
  · rintro ⟨n, h⟩
    have hx : ∃ r, ∃ n, iterN f n s = some r := ⟨r, n, h⟩
    rw [dif_pos hx]
    obtain ⟨m, hm⟩ := hx.choose_spec
    have h1 := iterN_mono h (Nat.le_max_left n m)
    have h2 := iterN_mono hm (Nat.le_max_right n m)
    rw [h1] at h2
    exact h2.symm
theorem iterO_inr {f : σ → Option (σ ⊕ ρ)} {s : σ} {r : ρ} (h : f s = some (.inr r)) : iterO f s = some r := iterO_iff.2 ⟨1, by simp [iterN, h]⟩
theorem iterO_inl {f : σ → Option (σ ⊕ ρ)} {s s' : σ} {o : Option ρ} (h : f s = some (.inl s')) (ho : iterO f s' = o) : iterO f s = o := by
  subst ho
  have key : ∀ r, iterO f s = some r ↔ iterO f s' = some r := fun r => by
    rw [iterO_iff, iterO_iff]
    constructor
    · rintro ⟨n, hn⟩
      cases n with
      | zero => cases hn
      | succ n => exact ⟨n, by simpa [iterN, h] using hn⟩
    · rintro ⟨n, hn⟩
      exact ⟨n + 1, by simpa [iterN, h] using hn⟩
  exact Option.ext key

theorem LoopK_iter {F : (List AV → Heap → Prop) → List AV → Heap → Prop} {f : σ → Option (σ ⊕ ρ)} {r0 : ρ} {R : σ → List AV → Heap → Prop}
    (hstep : ∀ s y vs H J, f s = some y → R s vs H → (∀ s' vs' H', y = .inl s' → R s' vs' H' → J vs' H') → (∀ r, y = .inr r → r = r0) → F J vs H)
    {s : σ} (h : iterO f s = some r0) {vs : List AV} {H : Heap} (hR : R s vs H) : LoopK F vs H := by
  intro J hJ
  obtain ⟨n, hn⟩ := iterO_iff.1 h
  clear h
  induction n generalizing s vs H with
  | zero => cases hn
  | succ n ih =>
    unfold iterN at hn
    split at hn
    · cases hn
    · rename_i r hr
      injection hn with hn
      subst hn
      exact hJ _ _ (hstep s _ vs H J hr hR (fun s' vs' H' he => by cases he) (fun r he => by injection he with he; exact he.symm))
    · rename_i s' hs
      exact hJ _ _ (hstep s _ vs H J hs hR (fun s2 vs' H' he hR' => by injection he with he; subst he; exact ih hR' hn) (fun r he => by cases he))
end

/-! ### words of plain functions -/
def ck (n : Int) : Prop := -9223372036854775808 ≤ n ∧ n ≤ 9223372036854775807
instance (n : Int) : Decidable (ck n) := by unfold ck; exact inferInstance
def atI {α : Type} (l : List α) (n : Int) : Option α := if 0 ≤ n then l[n.toNat]? else none
def cutI {α : Type} (l : List α) (a b : Int) : Option (List α) := if 0 ≤ a ∧ a ≤ b ∧ b ≤ (l.length : Int) then some ((l.take b.toNat).drop a.toNat) else none
inductive Err where
  | nil
  | no (n : Int)
  | fault (line : Int) (what : List UInt8) (err : Err)
  deriving DecidableEq
theorem atI_some {α : Type} {l : List α} {n : Int} {c : α} (h : atI l n = some c) : (0 ≤ n ∧ n < (l.length : Int)) ∧ l[n.toNat]? = some c := by
  unfold atI at h
  split at h
  · rename_i h0
    exact ⟨⟨h0, by have := (List.getElem?_eq_some_iff.1 h).1; omega⟩, h⟩
  · cases h

section
variable {k : AV → Prop} {kh : AV → Heap → Prop} {H : Heap} {ρ : Type} {y : ρ} {i i' : IntKind} {a b : Int} {l m : List UInt8} {X Y : Option ρ}
theorem ite_t {c : Prop} [Decidable c] (h : (if c then X else Y) = some y) : c ∧ X = some y ∨ ¬ c ∧ Y = some y := by
  by_cases hc : c
  · rw [if_pos hc] at h; exact .inl ⟨hc, h⟩
  · rw [if_neg hc] at h; exact .inr ⟨hc, h⟩
theorem ite_n {c : Prop} [Decidable c] (h : (if c then X else none) = some y) : c ∧ X = some y := by
  rcases ite_t h with h | ⟨_, h⟩
  · exact h
  · cases h
theorem qLss [Decidable (a < b)] (h : (if a < b then X else Y) = some y) (h1 : a < b → X = some y → k (B true)) (h2 : ¬ a < b → Y = some y → k (B false)) : pK (bn .prim .lss (.v (.int i a)) (.v (.int i b))) k := by
  rcases ite_t h with ⟨hc, h⟩ | ⟨hc, h⟩
  · exact sLss (fun _ => h1 hc h) (fun h' => by omega)
  · exact sLss (fun h' => (hc h').elim) (fun _ => h2 hc h)
theorem qGtr [Decidable (b < a)] (h : (if b < a then X else Y) = some y) (h1 : b < a → X = some y → k (B true)) (h2 : ¬ b < a → Y = some y → k (B false)) : pK (bn .prim .gtr (.v (.int i a)) (.v (.int i b))) k := by
  rcases ite_t h with ⟨hc, h⟩ | ⟨hc, h⟩
  · exact sGtr (fun _ => h1 hc h) (fun h' => by omega)
  · exact sGtr (fun h' => (hc h').elim) (fun _ => h2 hc h)
theorem qLeq [Decidable (a ≤ b)] (h : (if a ≤ b then X else Y) = some y) (h1 : a ≤ b → X = some y → k (B true)) (h2 : ¬ a ≤ b → Y = some y → k (B false)) : pK (bn .prim .leq (.v (.int i a)) (.v (.int i b))) k := by
  rcases ite_t h with ⟨hc, h⟩ | ⟨hc, h⟩
  · exact sLeq (fun _ => h1 hc h) (fun h' => by omega)
  · exact sLeq (fun h' => (hc h').elim) (fun _ => h2 hc h)
theorem qGeq [Decidable (b ≤ a)] (h : (if b ≤ a then X else Y) = some y) (h1 : b ≤ a → X = some y → k (B true)) (h2 : ¬ b ≤ a → Y = some y → k (B false)) : pK (bn .prim .geq (.v (.int i a)) (.v (.int i b))) k := by
  rcases ite_t h with ⟨hc, h⟩ | ⟨hc, h⟩
  · exact sGeq (fun _ => h1 hc h) (fun h' => by omega)
  · exact sGeq (fun h' => (hc h').elim) (fun _ => h2 hc h)
theorem qEql [Decidable (a = b)] (h : (if a = b then X else Y) = some y) (h1 : a = b → X = some y → k (B true)) (h2 : ¬ a = b → Y = some y → k (B false)) : pK (bn .prim .eql (.v (.int i a)) (.v (.int i b))) k := by
  rcases ite_t h with ⟨hc, h⟩ | ⟨hc, h⟩
  · exact sEql (fun _ => h1 hc h) (fun h' => (h' hc).elim)
  · exact sEql (fun h' => (hc h').elim) (fun _ => h2 hc h)
theorem qNeq [Decidable (a = b)] (h : (if a = b then X else Y) = some y) (h1 : a = b → X = some y → k (B false)) (h2 : ¬ a = b → Y = some y → k (B true)) : pK (bn .prim .neq (.v (.int i a)) (.v (.int i b))) k := by
  rcases ite_t h with ⟨hc, h⟩ | ⟨hc, h⟩
  · exact sNeq (fun h' => (h' hc).elim) (fun _ => h1 hc h)
  · exact sNeq (fun _ => h2 hc h) (fun h' => (hc h').elim)
theorem qEqS [Decidable (l = m)] (h : (if l = m then X else Y) = some y) (h1 : l = m → X = some y → k (B true)) (h2 : ¬ l = m → Y = some y → k (B false)) : pK (bn .prim .eql (T l) (T m)) k := by
  rcases ite_t h with ⟨hc, h⟩ | ⟨hc, h⟩
  · exact sEqS (fun _ => h1 hc h) (fun h' => (h' hc).elim)
  · exact sEqS (fun h' => (hc h').elim) (fun _ => h2 hc h)
theorem qNeS [Decidable (l = m)] (h : (if l = m then X else Y) = some y) (h1 : l = m → X = some y → k (B false)) (h2 : ¬ l = m → Y = some y → k (B true)) : pK (bn .prim .neq (T l) (T m)) k := by
  rcases ite_t h with ⟨hc, h⟩ | ⟨hc, h⟩
  · exact sNeS (fun h' => (h' hc).elim) (fun _ => h1 hc h)
  · exact sNeS (fun _ => h2 hc h) (fun h' => (hc h').elim)
theorem strB (l m : List UInt8) : (str l == str m) = (l == m) := by
  show (l.toArray == m.toArray) = (l == m)
  simp
theorem bnF_eql {l : List PK} {x y : AV} {xs ys : List Value} {b : Bool} (hx : aggV x = some xs) (hy : aggV y = some ys) (h : eqKs l xs ys = some b) : bn (.flat l) .eql x y = some (B b) := by
  show (match aggV x, aggV y with
    | some xs, some ys => match eqKs l xs ys with
      | some b => some (B b)
      | none => none
    | _, _ => none) = _
  rw [hx, hy]
  simp only [h]
theorem bnF_neq {l : List PK} {x y : AV} {b : Bool} (h : bn (.flat l) .eql x y = some (B b)) : bn (.flat l) .neq x y = some (B !b) := by
  have h : (match aggV x, aggV y with
    | some xs, some ys => match eqKs l xs ys with
      | some b => some (B b)
      | none => none
    | _, _ => none) = some (B b) := h
  show (match aggV x, aggV y with
    | some xs, some ys => match eqKs l xs ys with
      | some b => some (B !b)
      | none => none
    | _, _ => none) = _
  cases hx : aggV x with
  | none => rw [hx] at h; cases h
  | some xs => cases hy : aggV y with
    | none => rw [hx, hy] at h; cases h
    | some ys =>
      rw [hx, hy] at h
      simp only at h ⊢
      cases hb : eqKs l xs ys with
      | none => rw [hb] at h; cases h
      | some b' => rw [hb] at h; injection h with h; injection h with h; injection h with h; rw [h]
theorem qEqT {α : Type} [DecidableEq α] {a b : α} {c : α → List AV} {l : List PK} {u v : AV} (e : ∀ a b : α, bn (.flat l) .eql (.agg (c a)) (.agg (c b)) = some (B (decide (a = b)))) (h : (if a = b then X else Y) = some y) (hu : u = .agg (c a)) (hv : v = .agg (c b)) (h1 : a = b → X = some y → k (B true)) (h2 : ¬ a = b → Y = some y → k (B false)) : pK (bn (.flat l) .eql u v) k := by
  subst hu hv
  rw [e]
  rcases ite_t h with ⟨hc, h⟩ | ⟨hc, h⟩
  · rw [decide_eq_true hc]; exact h1 hc h
  · rw [decide_eq_false hc]; exact h2 hc h
theorem qNeT {α : Type} [DecidableEq α] {a b : α} {c : α → List AV} {l : List PK} {u v : AV} (e : ∀ a b : α, bn (.flat l) .neq (.agg (c a)) (.agg (c b)) = some (B (!decide (a = b)))) (h : (if a = b then X else Y) = some y) (hu : u = .agg (c a)) (hv : v = .agg (c b)) (h1 : a = b → X = some y → k (B false)) (h2 : ¬ a = b → Y = some y → k (B true)) : pK (bn (.flat l) .neq u v) k := by
  subst hu hv
  rw [e]
  rcases ite_t h with ⟨hc, h⟩ | ⟨hc, h⟩
  · rw [decide_eq_true hc]; exact h1 hc h
  · rw [decide_eq_false hc]; exact h2 hc h
theorem qLtS [Decidable (Op.bytesLess l m = true)] (h : (if Op.bytesLess l m = true then X else Y) = some y) (h1 : Op.bytesLess l m = true → X = some y → k (B true)) (h2 : ¬ Op.bytesLess l m = true → Y = some y → k (B false)) : pK (bn .prim .lss (T l) (T m)) k := by
  rcases ite_t h with ⟨hc, h⟩ | ⟨hc, h⟩
  · exact sLtS (fun _ => h1 hc h) (fun h' => by rw [hc] at h'; cases h')
  · exact sLtS (fun h' => (hc h').elim) (fun _ => h2 hc h)
theorem qGeS [Decidable (Op.bytesLess l m = true)] (h : (if Op.bytesLess l m = true then X else Y) = some y) (h1 : Op.bytesLess l m = true → X = some y → k (B false)) (h2 : ¬ Op.bytesLess l m = true → Y = some y → k (B true)) : pK (bn .prim .geq (T l) (T m)) k := by
  refine bool2 (c := !Op.bytesLess l m) rfl (fun hb => ?_) (fun hb => ?_)
  · rcases ite_t h with ⟨hc, h⟩ | ⟨hc, h⟩
    · simp [hc] at hb
    · exact h2 hc h
  · rcases ite_t h with ⟨hc, h⟩ | ⟨hc, h⟩
    · exact h1 hc h
    · simp at hb; exact (hc hb).elim
theorem qAdd [Decidable (ck (a + b))] (h : (if ck (a + b) then X else none) = some y) (h1 : ck (a + b) → X = some y → k (I (a + b))) : pK (bn .prim .add (I a) (I b)) k := by
  obtain ⟨hc, h⟩ := ite_n h
  exact sAdd' hc (h1 hc h)
theorem qSub [Decidable (ck (a - b))] (h : (if ck (a - b) then X else none) = some y) (h1 : ck (a - b) → X = some y → k (I (a - b))) : pK (bn .prim .sub (I a) (I b)) k := by
  obtain ⟨hc, h⟩ := ite_n h
  exact sSub' hc (h1 hc h)
theorem qMul [Decidable (ck (a * b))] (h : (if ck (a * b) then X else none) = some y) (h1 : ck (a * b) → X = some y → k (I (a * b))) : pK (bn .prim .mul (I a) (I b)) k := by
  obtain ⟨hc, h⟩ := ite_n h
  exact sMul' hc (h1 hc h)
theorem qCvI [Decidable (ck a)] (h : (if ck a then X else none) = some y) (h1 : ck a → X = some y → k (I a)) : pK (cv (some (some .i64)) (.v (.int i a))) k := by
  obtain ⟨hc, h⟩ := ite_n h
  exact sCvI hc (h1 hc h)
theorem qAddS (h : (if l.length + m.length ≤ 1073741824 then X else none) = some y) (h1 : X = some y → k (T (l ++ m))) : pK (bn .prim .add (T l) (T m)) k := by
  obtain ⟨hc, h⟩ := ite_n h
  exact sAddS hc (h1 h)
theorem qIxS {f : UInt8 → Option ρ} {n : Int} (h : (atI l n).bind f = some y) (h1 : ∀ c, atI l n = some c → f c = some y → k (.v (.int .u8 c.toNat))) : pK (ix .s (T l) (.v (.int i n))) k := by
  obtain ⟨c, hc, h⟩ := Option.bind_eq_some_iff.1 h
  obtain ⟨h0, hx⟩ := atI_some hc
  exact sIxK hx h0.1 (h1 c hc h)
theorem qIaR {α : Type} {f : α → Option ρ} {L : List α} {c : α → List AV} {sz : Nat} {n : Int} (h : (atI L n).bind f = some y) (hs : ∀ e, (c e).length = sz) (h1 : ∀ e, atI L n = some e → f e = some y → k (.rd (c e))) : pK (ia (.sl sz) H (.ro (L.map c)) (.v (.int i n))) k := by
  obtain ⟨e, he, h⟩ := Option.bind_eq_some_iff.1 h
  obtain ⟨h0, hx⟩ := atI_some he
  refine sIaR (by simpa using h0) (fun d hd => by obtain ⟨x, _, rfl⟩ := List.mem_map.1 hd; exact hs x) fun d hd => ?_
  rw [List.getElem?_map, hx] at hd
  injection hd with hd
  subst hd
  exact h1 e he h
theorem sLnM {α : Type} {L : List α} {c : α → List AV} (h : k (I L.length)) : pK (ln .sl H (.ro (L.map c))) k := sLnR (by rwa [List.length_map])
theorem qSlM {α : Type} {f : List α → Option ρ} {L : List α} {c : α → List AV} {sz : Nat} {n : Int} (h : (cutI L 0 n).bind f = some y) (hs : ∀ e, (c e).length = sz) (h1 : ∀ M, cutI L 0 n = some M → f M = some y → k (.ro (M.map c))) : pK (sl (.sl sz) H (.ro (L.map c)) none (some (.v (.int i n)))) k := by
  obtain ⟨M, hM, h⟩ := Option.bind_eq_some_iff.1 h
  have hM' := hM
  unfold cutI at hM
  split at hM
  · rename_i hc
    injection hM with hM
    subst hM
    refine sSlR (fun d hd => by obtain ⟨x, _, rfl⟩ := List.mem_map.1 hd; exact hs x) (by simp; omega) ?_
    have := h1 _ hM' h
    simpa [List.map_take] using this
  · cases hM
/-- bools that come up: both ways -/
theorem qExB {vs : List AV} {n : Nat} {c : Bool} [Decidable (c = true)] (hx : vs[n]? = some (B c)) (h : (if c = true then X else Y) = some y) (h1 : c = true → X = some y → k (B true)) (h2 : ¬ c = true → Y = some y → k (B false)) : pK (ex (.tuple vs) n) k := by
  refine sEx hx ?_
  rcases ite_t h with ⟨hc, h⟩ | ⟨hc, h⟩
  · rw [hc]; exact h1 hc h
  · have : c = false := by simpa using hc
    rw [this]; exact h2 hc h
theorem qLdRB {cs : List AV} {c : Bool} {n : Nat} [Decidable (c = true)] (hx : cs.head? = some (B c)) (h : (if c = true then X else Y) = some y) (h1 : c = true → X = some y → k (B true)) (h2 : ¬ c = true → Y = some y → k (B false)) : pK (ld (some (false, n)) H (.rd cs)) k := by
  refine sLdR1 hx ?_
  rcases ite_t h with ⟨hc, h⟩ | ⟨hc, h⟩
  · rw [hc]; exact h1 hc h
  · have : c = false := by simpa using hc
    rw [this]; exact h2 hc h
theorem qLdPB {o v f0 n : Nat} {c : Bool} [Decidable (c = true)] (hcur : cur H o v = true) (hx : ((H o).cs.drop f0).head? = some (B c)) (h : (if c = true then X else Y) = some y) (h1 : c = true → X = some y → k (B true)) (h2 : ¬ c = true → Y = some y → k (B false)) : pK (ld (some (false, n)) H (.ptr o v f0)) k := by
  refine sLdP1 hcur hx ?_
  rcases ite_t h with ⟨hc, h⟩ | ⟨hc, h⟩
  · rw [hc]; exact h1 hc h
  · have : c = false := by simpa using hc
    rw [this]; exact h2 hc h
/-! ### calls -/
theorem fzl_nil : FzL (fun _ => False) H [] [] := ⟨rfl, fun j x y h => by simp at h⟩
theorem fzl_cons {x z : AV} {xs zs : List AV} (h : Fz (fun _ => False) H x z) (hl : FzL (fun _ => False) H xs zs) : FzL (fun _ => False) H (x :: xs) (z :: zs) := by
  refine ⟨by simp [hl.1], fun j u v hu hv => ?_⟩
  cases j with
  | zero => simp at hu hv; subst hu hv; exact h
  | succ j => exact hl.2 j u v (by simpa using hu) (by simpa using hv)
theorem callF {S : Sys} {gg : Nat} {xs ys : List AV} {r : AV} (h : APure S gg ys r) (hv : FzL (fun _ => False) H xs ys) (hk : kh r H) : ACall S gg xs H kh := by
  refine ⟨h.1, fun O hO α w vs hB hc => ?_⟩
  refine (h.2 w (okA O w H α) vs (hB.glob hO) (hB.gtle hO) (fun b hb => okA_lt hO hB.size hb) ⟨by rw [← hv.1]; exact hc.1, fun j y v h1 h2 => ?_⟩).mono ?_
  · have hj : j < xs.length := by rw [hv.1]; exact (List.getElem?_eq_some_iff.1 h1).1
    exact hv.2 j xs[j] y (List.getElem?_eq_getElem hj) h1 O α w v _ hB (fun b hb => hb) (fun d b hd => hd.elim) (hc.2 j xs[j] v (List.getElem?_eq_getElem hj) h2)
  · rintro e w' ⟨v, rfl, hb, hr⟩
    obtain ⟨hB', hL⟩ := hB.below hO hb
    refine ⟨v, r, H, α, rfl, hB', hL, .d _ _ (hr.mono (fun _ _ => rfl) fun b hb' => ?_), hk⟩
    rcases hb' with h1 | h1
    · exact hL.ok b h1
    · refine ⟨.inr ⟨by have := hB.size; omega, h1.2⟩, fun d hd e => ?_⟩
      have := hB.lt hd e
      omega
theorem qC {S : Sys} {gg : Nat} {xs ys : List AV} {τ : Type} {G : Option τ} {f : τ → Option ρ} {enc : τ → AV} (h : G.bind f = some y) (hok : ∀ r, G = some r → APure S gg ys (enc r)) (hv : FzL (fun _ => False) H xs ys) (hk : ∀ r, G = some r → f r = some y → kh (enc r) H) : cK S (.fn gg []) xs H kh := by
  obtain ⟨r, hr, h⟩ := Option.bind_eq_some_iff.1 h
  show ACall S gg (xs ++ []) H kh
  rw [List.append_nil]
  exact callF (hok r hr) hv (hk r hr h)
theorem qCB {S : Sys} {gg : Nat} {xs ys : List AV} {G : Option Bool} {X Y : Option ρ} (h : (G.bind fun c => if c = true then X else Y) = some y) (hok : ∀ r, G = some r → APure S gg ys (B r)) (hv : FzL (fun _ => False) H xs ys) (h1 : G = some true → X = some y → kh (B true) H) (h2 : G = some false → Y = some y → kh (B false) H) : cK S (.fn gg []) xs H kh := by
  obtain ⟨r, hr, h⟩ := Option.bind_eq_some_iff.1 h
  show ACall S gg (xs ++ []) H kh
  rw [List.append_nil]
  refine callF (hok r hr) hv ?_
  cases r
  · exact h2 hr (by simpa using h)
  · exact h1 hr (by simpa using h)
theorem qP {S : Sys} {gg : Nat} {xs : List AV} {τ : Type} {G : Option τ} {f : τ → Option ρ} {enc : τ → AV} (h : G.bind f = some y) (hok : ∀ r, G = some r → APure S gg xs (enc r)) (hv : ∀ x ∈ xs, Pure x) (hk : ∀ r, G = some r → f r = some y → k (enc r)) : cP S (.fn gg []) xs k := by
  obtain ⟨r, hr, h⟩ := Option.bind_eq_some_iff.1 h
  exact qPure (hok r hr) hv (hk r hr h)
theorem qPB {S : Sys} {gg : Nat} {xs : List AV} {G : Option Bool} {X Y : Option ρ} (h : (G.bind fun c => if c = true then X else Y) = some y) (hok : ∀ r, G = some r → APure S gg xs (B r)) (hv : ∀ x ∈ xs, Pure x) (h1 : G = some true → X = some y → k (B true)) (h2 : G = some false → Y = some y → k (B false)) : cP S (.fn gg []) xs k := by
  obtain ⟨r, hr, h⟩ := Option.bind_eq_some_iff.1 h
  refine qPure (hok r hr) hv ?_
  cases r
  · exact h2 hr (by simpa using h)
  · exact h1 hr (by simpa using h)
theorem upd_self {β : Type} {f : Nat → β} {d : Nat} {x : β} (h : f d = x) : upd f d x = f := by
  funext j
  simp only [upd]
  split
  · rename_i e; rw [e]; exact h.symm
  · rfl
theorem objs1 {H : Heap} {d : Nat} {o : AObj} (h : H d = o) : ∃ H1, H = upd H1 d o := ⟨H, (upd_self h).symm⟩
theorem objs2 {H : Heap} {d d2 : Nat} {o o2 : AObj} (h : H d = o) (h2 : H d2 = o2) : ∃ H1, H = upd (upd H1 d2 o2) d o := ⟨H, by rw [upd_self h2, upd_self h]⟩
theorem objs3 {H : Heap} {d d2 d3 : Nat} {o o2 o3 : AObj} (h : H d = o) (h2 : H d2 = o2) (h3 : H d3 = o3) : ∃ H1, H = upd (upd (upd H1 d3 o3) d2 o2) d o := ⟨H, by rw [upd_self h3, upd_self h2, upd_self h]⟩
theorem objs4 {H : Heap} {d d2 d3 d4 : Nat} {o o2 o3 o4 : AObj} (h : H d = o) (h2 : H d2 = o2) (h3 : H d3 = o3) (h4 : H d4 = o4) : ∃ H1, H = upd (upd (upd (upd H1 d4 o4) d3 o3) d2 o2) d o := ⟨H, by rw [upd_self h4, upd_self h3, upd_self h2, upd_self h]⟩
end
end Go.Abs
namespace Go.Abs
open Go Go.RowKit
theorem fz_tup {ds : Nat → Prop} {H : Heap} {xs ys : List AV} (h : FzL ds H xs ys) : Fz ds H (.tuple xs) (.tuple ys) := Fz.tuple h.1 h.2
theorem fz_agg {ds : Nat → Prop} {H : Heap} {xs ys : List AV} (h : FzL ds H xs ys) : Fz ds H (.agg xs) (.agg ys) := Fz.agg h.1 h.2
section
variable {k : AV → Prop} {H : Heap}
theorem sFi1 {cs : List AV} {o n : Nat} {x : AV} (hx : cs[o]? = some x) (h : k x) : pK (fi (some (o, (false, n))) (.agg cs)) k := pK_i hx h
theorem sFiA {cs : List AV} {o n : Nat} (hn : Nat.ble (o + n) cs.length = true) (h : k (.agg ((cs.drop o).take n))) : pK (fi (some (o, (true, n))) (.agg cs)) k := pK_i (by simp only [fi, prt, if_pos (Nat.le_of_ble_eq_true hn)]) h
theorem sCvS {l : List UInt8} (h : k (T l)) : pK (cv (some none) (T l)) k := h
end
end Go.Abs
namespace Go.Abs
open Go Go.RowKit
/-! ### slices of one's own -/
/-- a slice that is nil and empty, or one's own in an object of D, whole -/
def OwnS (H : Heap) (D : List Nat) {α : Type} (c : α → List AV) (sz t : Nat) (l : List α) (x : AV) : Prop :=
  (l = [] ∧ x = N0) ∨ ∃ d v, d ∈ D ∧ x = .own d v 0 l.length sz ∧ H d = ⟨v, true, l.flatMap c, t⟩
theorem flatMap_len {α : Type} {c : α → List AV} {sz : Nat} (hc : ∀ e, (c e).length = sz) : ∀ l : List α, (l.flatMap c).length = l.length * sz
  | [] => by simp
  | e :: l => by simp [flatMap_len hc l, hc, Nat.add_mul, Nat.add_comm]
theorem flatMap_all {α : Type} {c : α → List AV} {p : AV → Bool} (hc : ∀ e, (c e).all p = true) : ∀ l : List α, (l.flatMap c).all p = true
  | [] => rfl
  | e :: l => by rw [List.flatMap_cons, List.all_append, hc, flatMap_all hc l]; rfl
section
variable {α : Type} {k : AV → Prop} {kh : AV → Heap → Prop} {H : Heap} {ρ : Type} {y : ρ} {X : Option ρ} {c : α → List AV} {sz t t' o o' v v' d : Nat} {l m : List α}
theorem src_own (hH : H o = ⟨v, true, m.flatMap c, t⟩) (hc : ∀ e, (c e).length = sz) : srcA H sz (.own o v 0 m.length sz) = some (m.length, m.flatMap c) := by
  have h1 : cur H o v = true := by simp [cur, hH]
  have h2 := flatMap_len hc m
  simp only [srcA, h1, hH, h2, and_self, Nat.zero_add, Nat.le_refl, if_true, List.drop_zero]
  rw [List.take_of_length_le (by omega)]
theorem src_ro (hc : ∀ e, (c e).length = sz) : srcA H sz (.ro (m.map c)) = some (m.length, m.flatMap c) := by
  show (if ∀ cs ∈ m.map c, cs.length = sz then some ((m.map c).length, (m.map c).flatten) else none) = _
  rw [if_pos (fun x hx => by obtain ⟨e, _, rfl⟩ := List.mem_map.1 hx; exact hc e)]
  simp [List.flatMap]
theorem ap_own {x : AV} (hs : srcA H sz x = some (m.length, m.flatMap c)) (hl : ∀ e, (c e).all (leaf H) = true) (hH : H o = ⟨v, true, l.flatMap c, t⟩) (hc : ∀ e, (c e).length = sz) (hm : l.length + m.length ≤ 1073741824)
    (h : kh (.own o (v + 1) 0 (l ++ m).length sz) (upd H o ⟨v + 1, true, (l ++ m).flatMap c, t⟩)) : hK (ap (some (t, sz)) H d (.own o v 0 l.length sz) x) kh := by
  have h1 : cur H o v = true := by simp [cur, hH]
  refine sApO hs (flatMap_all hl m) h1 (by rw [hH]) hm (by rw [hH]; exact flatMap_len hc l) ?_
  rw [hH]
  simpa [List.flatMap_append] using h
theorem ap_nil {x : AV} (hs : srcA H sz x = some (m.length, m.flatMap c)) (hl : ∀ e, (c e).all (leaf H) = true) (hm : m.length ≤ 1073741824)
    (h : kh (.own d ((H d).ver + 1) 0 ([] ++ m).length sz) (upd H d ⟨(H d).ver + 1, true, ([] ++ m).flatMap c, t⟩)) : hK (ap (some (t, sz)) H d N0 x) kh := by
  refine sAp0 hs (flatMap_all hl m) hm ?_
  simpa using h
/-- append of a slice of one's own (what was built of single parts) -/
theorem qApOO (h : (if l.length + m.length ≤ 1073741824 then X else none) = some y) (hc : ∀ e, (c e).length = sz) (hl : ∀ H e, (c e).all (leaf H) = true) (hH : H o = ⟨v, true, l.flatMap c, t⟩) (hH' : H o' = ⟨v', true, m.flatMap c, t'⟩)
    (h1 : X = some y → kh (.own o (v + 1) 0 (l ++ m).length sz) (upd H o ⟨v + 1, true, (l ++ m).flatMap c, t⟩)) : hK (ap (some (t, sz)) H d (.own o v 0 l.length sz) (.own o' v' 0 m.length sz)) kh := by
  obtain ⟨hm, h⟩ := ite_n h
  exact ap_own (src_own hH' hc) (hl H) hH hc hm (h1 h)
theorem qApNO (h : (if ([] : List α).length + m.length ≤ 1073741824 then X else none) = some y) (hc : ∀ e, (c e).length = sz) (hl : ∀ H e, (c e).all (leaf H) = true) (hH' : H o' = ⟨v', true, m.flatMap c, t'⟩)
    (h1 : X = some y → kh (.own d ((H d).ver + 1) 0 ([] ++ m).length sz) (upd H d ⟨(H d).ver + 1, true, ([] ++ m).flatMap c, t⟩)) : hK (ap (some (t, sz)) H d N0 (.own o' v' 0 m.length sz)) kh := by
  obtain ⟨hm, h⟩ := ite_n h
  exact ap_nil (src_own hH' hc) (hl H) (by simpa using hm) (h1 h)
theorem qApOR (h : (if l.length + m.length ≤ 1073741824 then X else none) = some y) (hc : ∀ e, (c e).length = sz) (hl : ∀ H e, (c e).all (leaf H) = true) (hH : H o = ⟨v, true, l.flatMap c, t⟩)
    (h1 : X = some y → kh (.own o (v + 1) 0 (l ++ m).length sz) (upd H o ⟨v + 1, true, (l ++ m).flatMap c, t⟩)) : hK (ap (some (t, sz)) H d (.own o v 0 l.length sz) (.ro (m.map c))) kh := by
  obtain ⟨hm, h⟩ := ite_n h
  exact ap_own (src_ro hc) (hl H) hH hc hm (h1 h)
theorem qApNR (h : (if ([] : List α).length + m.length ≤ 1073741824 then X else none) = some y) (hc : ∀ e, (c e).length = sz) (hl : ∀ H e, (c e).all (leaf H) = true)
    (h1 : X = some y → kh (.own d ((H d).ver + 1) 0 ([] ++ m).length sz) (upd H d ⟨(H d).ver + 1, true, ([] ++ m).flatMap c, t⟩)) : hK (ap (some (t, sz)) H d N0 (.ro (m.map c))) kh := by
  obtain ⟨hm, h⟩ := ite_n h
  exact ap_nil (src_ro hc) (hl H) (by simpa using hm) (h1 h)
theorem sBSt {n : Nat} {z : List AV} {parts : List (Nat × AV)} (hx : fillA H (fun i => if i < n then some (i * sz, sz) else none) (List.replicate n z).flatten parts = some (m.flatMap c)) (hn : n = m.length)
    (h : kh (.own d ((H d).ver + 1) 0 m.length sz) (upd H d ⟨(H d).ver + 1, true, m.flatMap c, t⟩)) : hK (bS (some (t, sz, z)) H d n parts) kh := by
  subst hn
  exact sBS hx h
theorem sLnOw (hH : H o = ⟨v, true, l.flatMap c, t⟩) (h : k (I l.length)) : pK (ln .sl H (.own o v 0 l.length sz)) k := sLnO (by simp [cur, hH]) h
theorem fz_own (hH : H o = ⟨v, true, l.flatMap c, t⟩) (hc : ∀ e, (c e).length = sz) (hp : ∀ e, ∀ x ∈ c e, Pure x) : Fz (fun _ => True) H (.own o v 0 l.length sz) (.ro (l.map c)) :=
  Fz.row (f := c) (f' := c) (l := l) (by simp [cur, hH]) trivial (by rw [hH]) rfl (fun x _ => hc x) (fun x _ => hc x) fun x _ j a b ha hb => by
    rw [ha] at hb
    injection hb with hb
    subst hb
    exact Fz.pure (hp x a (List.mem_of_getElem? ha))
/-- a call that looks at what is owned, and hands back nothing of it -/
theorem qCv {S : Sys} {gg : Nat} {xs ys : List AV} {τ : Type} {G : Option τ} {f : τ → Option ρ} {enc : τ → AV} (h : G.bind f = some y) (hok : ∀ r, G = some r → APure S gg ys (enc r)) (hv : FzL (fun _ => True) H xs ys) (hf : ∀ r, Flat (enc r)) (hk : ∀ r, G = some r → f r = some y → kh (enc r) H) : cK S (.fn gg []) xs H kh := by
  obtain ⟨r, hr, h⟩ := Option.bind_eq_some_iff.1 h
  show ACall S gg (xs ++ []) H kh
  rw [List.append_nil]
  exact ACall.view (hok r hr) hv (hf r) (hk r hr h)
theorem qCvB {S : Sys} {gg : Nat} {xs ys : List AV} {G : Option Bool} {X Y : Option ρ} (h : (G.bind fun c => if c = true then X else Y) = some y) (hok : ∀ r, G = some r → APure S gg ys (B r)) (hv : FzL (fun _ => True) H xs ys) (h1 : G = some true → X = some y → kh (B true) H) (h2 : G = some false → Y = some y → kh (B false) H) : cK S (.fn gg []) xs H kh := by
  obtain ⟨r, hr, h⟩ := Option.bind_eq_some_iff.1 h
  show ACall S gg (xs ++ []) H kh
  rw [List.append_nil]
  refine ACall.view (hok r hr) hv (by simp) ?_
  cases r
  · exact h2 hr (by simpa using h)
  · exact h1 hr (by simpa using h)
end
end Go.Abs
namespace Go.Abs
open Go Go.RowKit
section
variable {k : AV → Prop} {i i' : IntKind} {a : Int} {b : Int} {p q : Bool}
theorem sShl (hb : 0 ≤ b) (h : k (.v (.int i (i.wrap (a * 2 ^ (min b.toNat i.bits)))))) : pK (bn .prim .shl (.v (.int i a)) (.v (.int i' b))) k := by
  refine pK_i ?_ h
  show (if b < 0 then none else some (Value.int i (i.wrap (a * 2 ^ (min b.toNat i.bits))))).map AV.v = _
  rw [if_neg (by omega)]; rfl
theorem sShr (hb : 0 ≤ b) (h : k (.v (.int i (a.fdiv (2 ^ (min b.toNat i.bits)))))) : pK (bn .prim .shr (.v (.int i a)) (.v (.int i' b))) k := by
  refine pK_i ?_ h
  show (if b < 0 then none else some (Value.int i (a.fdiv (2 ^ (min b.toNat i.bits))))).map AV.v = _
  rw [if_neg (by omega)]; rfl
theorem sAnd (h : k (.v (.int i (i.wrap ((BitVec.ofInt i.bits a &&& BitVec.ofInt i.bits b).toNat))))) : pK (bn .prim .and (.v (.int i a)) (.v (.int i b))) k := by cases i <;> exact h
theorem sOr (h : k (.v (.int i (i.wrap ((BitVec.ofInt i.bits a ||| BitVec.ofInt i.bits b).toNat))))) : pK (bn .prim .or (.v (.int i a)) (.v (.int i b))) k := by cases i <;> exact h
theorem sXor (h : k (.v (.int i (i.wrap ((BitVec.ofInt i.bits a ^^^ BitVec.ofInt i.bits b).toNat))))) : pK (bn .prim .xor (.v (.int i a)) (.v (.int i b))) k := by cases i <;> exact h
theorem sBBe (h : k (B (p == q))) : pK (bn .bool .eql (B p) (B q)) k := h
theorem sBBn (h : k (B (!(p == q)))) : pK (bn .bool .neq (B p) (B q)) k := h
end
end Go.Abs
namespace Go.Abs
open Go Go.RowKit
/-- a slice that is nil and empty, or that is only read -/
def RdS {α : Type} (c : α → List AV) (l : List α) (x : AV) : Prop := (l = [] ∧ x = N0) ∨ x = .ro (l.map c)
section
variable {α ρ : Type} {k : AV → Prop} {H : Heap} {i : IntKind} {y : ρ}
theorem qIaN {f : α → Option ρ} {sz : Nat} {n : Int} (h : (atI ([] : List α) n).bind f = some y) : pK (ia (.sl sz) H N0 (.v (.int i n))) k := by
  unfold atI at h
  split at h <;> simp at h
theorem qIaN2 {f : α → Option ρ} {sz : Nat} {n : Int} {x : AV} (h : (atI ([] : List α) n).bind f = some y) : pK (ia (.sl sz) H x (.v (.int i n))) k := by
  unfold atI at h
  split at h <;> simp at h
end
end Go.Abs
