/- Structs of plain cells, held against each other. No program text. -/
import Derived.Test.YtlglooieeadkmaaDoorAbs10
set_option linter.unusedVariables false
set_option linter.unusedSimpArgs false
namespace Go.Abs
open Go Go.RowKit

def valA {α : Type} (P : Program) : Sem α → Option α
  | .pure a => some a
  | .program k => valA P (k P)
  | .mark _ k => valA P k
  | _ => none
theorem valA_bind {α β : Type} {P : Program} {s : Sem α} {a : α} {f : α → Sem β} (h : valA P s = some a) : valA P (s >>= f) = valA P (f a) := by
  induction s with
  | pure b => simp only [valA, Option.some.injEq] at h; subst h; rfl
  | program k ih => exact ih P h
  | mark m k ih => exact ih h
  | _ => cases h
theorem val?_valA {P : Program} (s : Sem Value) : val? P s = valA P s := by
  induction s with
  | pure b => rfl
  | program k ih => exact ih P
  | mark m k ih => exact ih
  | _ => rfl
theorem valA_underlying {P : Program} {t : TypeId} {d : TypeDesc} (h : P.underlying t = some d) : valA P (underlying t) = some d := by
  show valA P (match P.underlying t with | some d => pure d | none => stuck "no such type") = _
  rw [h]; rfl
theorem valA_eq_nil {P : Program} {t : TypeId} {ms : Array (String × TypeId)} (h : P.underlying t = some (.interface ms)) (d : Nat) : valA P (Op.equalIn (d + 1) t .nilIface .nilIface) = some true := by
  rw [Op.equalIn, valA_bind (valA_underlying h)]
  rfl

inductive PK where
  | i | b | s
def flatF (P : Program) (f : TypeId → Option (List PK)) : List Field → Nat → Option (List PK)
  | [], _ => some []
  | x :: r, off => match f x.type, P.info? x.type with
    | some l, some i => if x.name ≠ "_" ∧ x.offset = off ∧ i.size = l.length then (flatF P f r (off + l.length)).map (l ++ ·) else none
    | _, _ => none
def flatK (P : Program) : Nat → TypeId → Option (List PK)
  | 0, _ => none
  | d + 1, t => match P.underlying t with
    | some .bool => some [.b]
    | some (.int _) => some [.i]
    | some .string => some [.s]
    | some (.struct fs) => if P.stoodInHeld t then none else flatF P (flatK P d) fs.toList 0
    | _ => none
def eqK : PK → Value → Value → Option Bool
  | .i, .int k a, .int k' b => if k = k' then some (a == b) else none
  | .b, .bool a, .bool b => some (a == b)
  | .s, .string a, .string b => some (a == b)
  | _, _, _ => none
def eqKs : List PK → List Value → List Value → Option Bool
  | [], [], [] => some true
  | k :: l, x :: xs, y :: ys => (eqK k x y).bind fun b => (eqKs l xs ys).map (b && ·)
  | _, _, _ => none

theorem eqKs_append : ∀ (l m : List PK) (xs ys : List Value) (b : Bool), eqKs (l ++ m) xs ys = some b →
    ∃ b1 b2, eqKs l (xs.take l.length) (ys.take l.length) = some b1 ∧ eqKs m (xs.drop l.length) (ys.drop l.length) = some b2 ∧ b = (b1 && b2)
  | [], m, xs, ys, b, h => ⟨true, b, rfl, h, by simp⟩
  | k :: l, m, [], ys, b, h => by simp [eqKs] at h
  | k :: l, m, x :: xs, [], b, h => by simp [eqKs] at h
  | k :: l, m, x :: xs, y :: ys, b, h => by
    simp only [List.cons_append, eqKs, Option.bind_eq_some_iff, Option.map_eq_some_iff] at h
    obtain ⟨b0, h0, b1, h1, rfl⟩ := h
    obtain ⟨c1, c2, g1, g2, rfl⟩ := eqKs_append l m xs ys b1 h1
    exact ⟨b0 && c1, c2, by simp [eqKs, h0, g1], by simpa using g2, by rw [Bool.and_assoc]⟩
theorem eqKs_len : ∀ (l : List PK) (xs ys : List Value) (b : Bool), eqKs l xs ys = some b → xs.length = l.length ∧ ys.length = l.length
  | [], [], [], _, _ => ⟨rfl, rfl⟩
  | [], [], _ :: _, _, h => by simp [eqKs] at h
  | [], _ :: _, _, _, h => by simp [eqKs] at h
  | k :: l, [], ys, b, h => by simp [eqKs] at h
  | k :: l, x :: xs, [], b, h => by simp [eqKs] at h
  | k :: l, x :: xs, y :: ys, b, h => by
    simp only [eqKs, Option.bind_eq_some_iff, Option.map_eq_some_iff] at h
    obtain ⟨b0, h0, b1, h1, rfl⟩ := h
    have := eqKs_len l xs ys b1 h1
    simp [this]

/-- what cells of a type are as one value -/
def wrapV (P : Program) (t : TypeId) (xs : List Value) : Value := match P.underlying t with
  | some (.struct _) => .agg xs.toArray
  | _ => xs.headD undef

theorem valA_isAgg {P : Program} {t : TypeId} {d : TypeDesc} (h : P.underlying t = some d) : valA P (isAgg t) = some (match d with | .struct _ => true | .array _ _ => true | _ => false) := by
  unfold isAgg
  rw [valA_bind (valA_underlying h)]
  cases d <;> rfl
theorem valA_sizeOf {P : Program} {t : TypeId} {i : TypeInfo} (h : P.info? t = some i) : valA P (sizeOf t) = some i.size := by
  have h1 : valA P (typeInfo t) = some i := by
    show valA P (match P.info? t with | some i => pure i | none => stuck "no such type") = _
    rw [h]; rfl
  unfold sizeOf
  rw [valA_bind h1]
  rfl
theorem flatK_und {P : Program} {d : Nat} {t : TypeId} {l : List PK} (h : flatK P d t = some l) : ∃ k, P.underlying t = some k ∧ ((∃ fs, k = .struct fs) ∨ (∃ p, l = [p]) ∧ (match k with | .struct _ => true | .array _ _ => true | _ => false) = false) := by
  cases d with
  | zero => cases h
  | succ d =>
    unfold flatK at h
    split at h
    · rename_i hu; injection h with h; exact ⟨_, hu, .inr ⟨⟨_, h.symm⟩, rfl⟩⟩
    · rename_i hu; injection h with h; exact ⟨_, hu, .inr ⟨⟨_, h.symm⟩, rfl⟩⟩
    · rename_i hu; injection h with h; exact ⟨_, hu, .inr ⟨⟨_, h.symm⟩, rfl⟩⟩
    · rename_i fs hu; exact ⟨_, hu, .inl ⟨fs, rfl⟩⟩
    · cases h
theorem valA_part {P : Program} {d : Nat} {t : TypeId} {l : List PK} {i : TypeInfo} (h : flatK P d t = some l) (hi : P.info? t = some i) (hs : i.size = l.length) {XS : List Value} {off : Nat} (hl : off + l.length ≤ XS.length) :
    valA P (part t XS.toArray off) = some (wrapV P t ((XS.drop off).take l.length)) := by
  obtain ⟨k, hu, hk⟩ := flatK_und h
  unfold part
  rw [valA_bind (valA_isAgg hu)]
  rcases hk with ⟨fs, rfl⟩ | ⟨⟨p, rfl⟩, hk⟩
  · simp only [if_true]
    rw [valA_bind (valA_sizeOf hi), hs]
    simp only [wrapV, hu]
    show some _ = some _
    congr 2
    rw [List.extract_toArray, List.extract]
    congr 2
    omega
  · simp only [List.length_singleton] at hl ⊢
    have hlt : off < XS.length := by omega
    have hd : (XS.drop off).take 1 = [XS[off]] := by rw [List.drop_eq_getElem_cons hlt]; rfl
    have hw : wrapV P t ((XS.drop off).take 1) = XS[off] := by
      unfold wrapV
      rw [hu, hd]
      cases k <;> first | rfl | (simp at hk; done)
    rw [hw]
    have hx : XS.toArray[off]? = some XS[off] := by simp [List.getElem?_eq_getElem hlt]
    cases k <;> first | (simp at hk; done) | (simp only [Bool.false_eq_true, if_false, hx]; rfl)

theorem forIn_fields {P : Program} {β : Type} {body : Field → Option Bool × β → Sem (ForInStep (Option Bool × β))} {u : β} : ∀ (fs : List Field) (bs : List Bool), fs.length = bs.length →
    (∀ (j : Nat) (f : Field) (b : Bool), fs[j]? = some f → bs[j]? = some b → valA P (body f (none, u)) = some (if b then .yield (none, u) else .done (some false, u))) →
    valA P (forIn fs (none, u) body) = some (if bs.all id then (none, u) else (some false, u))
  | [], [], _, _ => rfl
  | [], _ :: _, h, _ => by simp at h
  | _ :: _, [], h, _ => by simp at h
  | f :: fs, b :: bs, h, hb => by
    have h0 := hb 0 f b rfl rfl
    rw [List.forIn_cons, valA_bind h0]
    cases b with
    | false => rfl
    | true =>
      simp only [if_true]
      rw [forIn_fields fs bs (by simpa using h) fun j f b h1 h2 => hb (j + 1) f b (by simpa using h1) (by simpa using h2)]
      simp

/-- the fields' outcomes, one by one -/
theorem flatF_split {P : Program} {g : TypeId → Option (List PK)} : ∀ (fs : List Field) (off : Nat) (l : List PK) (xs ys : List Value) (b : Bool), flatF P g fs off = some l → eqKs l xs ys = some b →
    ∃ bs : List Bool, fs.length = bs.length ∧ b = bs.all id ∧ ∀ (j : Nat) (f : Field) (c : Bool), fs[j]? = some f → bs[j]? = some c →
      ∃ m i o, g f.type = some m ∧ P.info? f.type = some i ∧ i.size = m.length ∧ f.name ≠ "_" ∧ f.offset = off + o ∧ o + m.length ≤ xs.length ∧ o + m.length ≤ ys.length ∧ eqKs m ((xs.drop o).take m.length) ((ys.drop o).take m.length) = some c
  | [], off, l, xs, ys, b, h, he => by
    simp only [flatF, Option.some.injEq] at h
    subst h
    obtain ⟨h1, h2⟩ := eqKs_len _ _ _ _ he
    have e1 := List.eq_nil_of_length_eq_zero h1
    have e2 := List.eq_nil_of_length_eq_zero h2
    subst e1 e2
    simp only [eqKs, Option.some.injEq] at he
    exact ⟨[], rfl, by simp [← he], fun j f c h => by simp at h⟩
  | x :: r, off, l, xs, ys, b, h, he => by
    unfold flatF at h
    split at h
    · rename_i m i hm hi
      split at h
      · rename_i hc
        obtain ⟨l', h1, rfl⟩ := Option.map_eq_some_iff.1 h
        obtain ⟨b1, b2, g1, g2, rfl⟩ := eqKs_append _ _ _ _ _ he
        obtain ⟨bs, k1, k2, k3⟩ := flatF_split r _ _ _ _ _ h1 g2
        obtain ⟨n1, n2⟩ := eqKs_len _ _ _ _ he
        simp only [List.length_append] at n1 n2
        refine ⟨b1 :: bs, by simp [k1], by simp [k2], fun j f c hf hb => ?_⟩
        cases j with
        | zero =>
          simp only [List.getElem?_cons_zero, Option.some.injEq] at hf hb
          subst hf hb
          exact ⟨m, i, 0, hm, hi, hc.2.2, hc.1, by simpa using hc.2.1, by omega, by omega, by simpa using g1⟩
        | succ j =>
          obtain ⟨m', i', o, q1, q2, q3, q4, q5, q6, q7, q8⟩ := k3 j f c (by simpa using hf) (by simpa using hb)
          simp only [List.length_drop] at q6 q7
          exact ⟨m', i', m.length + o, q1, q2, q3, q4, by omega, by omega, by omega, by simpa [List.drop_drop] using q8⟩
      · cases h
    · cases h

theorem equalIn_flat {P : Program} : ∀ (d : Nat) (t : TypeId) (l : List PK) (xs ys : List Value) (b : Bool), flatK P d t = some l → eqKs l xs ys = some b → valA P (Op.equalIn d t (wrapV P t xs) (wrapV P t ys)) = some b := by
  intro d
  induction d with
  | zero => intro t l xs ys b h; cases h
  | succ d ih =>
    intro t l xs ys b h he
    have prim : ∀ (p : PK), l = [p] → ∃ x y, xs = [x] ∧ ys = [y] ∧ eqK p x y = some b := fun p hp => by
      subst hp
      obtain ⟨h1, h2⟩ := eqKs_len _ _ _ _ he
      obtain ⟨x, rfl⟩ := List.length_eq_one_iff.1 h1
      obtain ⟨y, rfl⟩ := List.length_eq_one_iff.1 h2
      refine ⟨x, y, rfl, rfl, ?_⟩
      simp only [eqKs, Option.map_some, Option.bind_eq_some_iff, Option.some.injEq, Bool.and_true] at he
      obtain ⟨b', h3, rfl⟩ := he
      exact h3
    unfold flatK at h
    split at h
    · rename_i hu
      obtain ⟨x, y, rfl, rfl, hk⟩ := prim .b (by injection h with h; exact h.symm)
      rw [Op.equalIn, valA_bind (valA_underlying hu)]
      simp only [wrapV, hu, List.headD_cons]
      unfold eqK at hk
      split at hk <;> first | cases hk | skip
      all_goals first | rfl | (rename_i heq; cases heq)
    · rename_i k hu
      obtain ⟨x, y, rfl, rfl, hk⟩ := prim .i (by injection h with h; exact h.symm)
      rw [Op.equalIn, valA_bind (valA_underlying hu)]
      simp only [wrapV, hu, List.headD_cons]
      unfold eqK at hk
      split at hk <;> first | cases hk | skip
      all_goals first
        | (split at hk
           · rename_i hkk
             injection hk with hk
             subst hk
             simp only [hkk, if_true]
             rfl
           · cases hk)
        | (rename_i heq; cases heq)
    · rename_i hu
      obtain ⟨x, y, rfl, rfl, hk⟩ := prim .s (by injection h with h; exact h.symm)
      rw [Op.equalIn, valA_bind (valA_underlying hu)]
      simp only [wrapV, hu, List.headD_cons]
      unfold eqK at hk
      split at hk <;> first | cases hk | skip
      all_goals first | rfl | (rename_i heq; cases heq)
    · rename_i fs hu
      split at h
      · cases h
      rename_i hst
      obtain ⟨bs, k1, rfl, k3⟩ := flatF_split _ _ _ _ _ _ h he
      rw [Op.equalIn, valA_bind (valA_underlying hu)]
      simp only [wrapV, hu]
      have hp : valA P program = some P := rfl
      rw [valA_bind hp]
      simp only [hst, Bool.false_eq_true, if_false]
      rw [← Array.forIn_toList]
      rw [valA_bind (forIn_fields (P := P) fs.toList bs k1 fun j f c hf hb => ?_)]
      · cases bs.all id <;> rfl
      · obtain ⟨m, i, o, q1, q2, q3, q4, q5, q6, q7, q8⟩ := k3 j f c hf hb
        rw [if_pos q4, q5, Nat.zero_add, valA_bind (valA_part q1 q2 q3 q6), valA_bind (valA_part q1 q2 q3 q7), valA_bind (ih _ _ _ _ _ q1 q8)]
        cases c <;> rfl
    · cases h
theorem flatF_mono {P : Program} {f g : TypeId → Option (List PK)} (hfg : ∀ t l, f t = some l → g t = some l) : ∀ (fs : List Field) (off : Nat) (l : List PK), flatF P f fs off = some l → flatF P g fs off = some l
  | [], off, l, h => h
  | x :: r, off, l, h => by
    unfold flatF at h ⊢
    split at h
    · rename_i m i hm hi
      simp only [hfg _ _ hm, hi]
      split at h
      · rename_i hc
        rw [if_pos hc]
        obtain ⟨l', h1, h2⟩ := Option.map_eq_some_iff.1 h
        rw [flatF_mono hfg r _ _ h1]
        exact congrArg some h2
      · cases h
    · cases h
theorem flatK_succ {P : Program} : ∀ (d : Nat) (t : TypeId) (l : List PK), flatK P d t = some l → flatK P (d + 1) t = some l
  | 0, t, l, h => by cases h
  | d + 1, t, l, h => by
    have e : ∀ n, flatK P (n + 1) t = match P.underlying t with
      | some .bool => some [.b]
      | some (.int _) => some [.i]
      | some .string => some [.s]
      | some (.struct fs) => if P.stoodInHeld t then none else flatF P (flatK P n) fs.toList 0
      | _ => none := fun n => rfl
    rw [e] at h ⊢
    split at h
    · exact h
    · exact h
    · exact h
    · split at h
      · cases h
      · rename_i hs
        simp only [if_neg hs]
        exact flatF_mono (fun t l => flatK_succ d t l) _ _ _ h
    · cases h
theorem flatK_le {P : Program} {d e : Nat} {t : TypeId} {l : List PK} (h : flatK P d t = some l) (hd : d ≤ e) : flatK P e t = some l := by
  induction hd with
  | refl => exact h
  | step _ ih => exact flatK_succ _ _ _ ih
end Go.Abs
