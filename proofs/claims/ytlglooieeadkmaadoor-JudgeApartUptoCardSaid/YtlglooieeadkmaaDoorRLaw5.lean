/- parsed, Read, Write: always an answer; JudgeApart. -/
import Derived.Test.YtlglooieeadkmaaDoorRLaw4
set_option linter.unusedVariables false
set_option linter.unusedSimpArgs false
set_option maxRecDepth 100000
namespace Go.Abs
open Go Go.RowKit
def gP (t : S_Told) (b : Bool) : Prop := okT t ∧ (b = true → t.Kind = 6 ∨ t.Kind = 7 ∨ 10 ∉ t.Level)
def gR {σ : Type} (o : Option (σ ⊕ (S_Told × Bool))) : Prop := ∃ t b, o = some (.inr (t, b)) ∧ gP t b
theorem gR_i {σ : Type} {t : S_Told} {b : Bool} (h : gP t b) : gR (σ := σ) (some (.inr (t, b))) := ⟨t, b, rfl, h⟩
theorem gR_ite {σ : Type} {c : Prop} [Decidable c] {x y : Option (σ ⊕ (S_Told × Bool))} (h1 : c → gR x) (h2 : ¬ c → gR y) : gR (if c then x else y) := by
  by_cases h : c
  · rw [if_pos h]; exact h1 h
  · rw [if_neg h]; exact h2 h
theorem gR_bind {σ τ : Type} {o : Option τ} {v : τ} {f : τ → Option (σ ⊕ (S_Told × Bool))} (h : o = some v) (hf : gR (f v)) : gR (o.bind f) := by
  rw [h, Option.bind_some]; exact hf
theorem y3_some (w : List (List UInt8)) (b : Bool) (a1 a2 a3 : Int) (a4 : List UInt8) (a5 a6 a7 : Int) (t : S_Told) (ht : okT t) : gR (F_trace_parsed_y3 w b a1 a2 a3 a4 a5 a6 a7 t.At t.Kind t.ID t.Level t.Seats t.Why t.Digest) := by
  have base : gP ⟨t.At, t.Kind, t.ID, t.Level, t.Seats, t.Why, t.Digest⟩ false := ⟨⟨ht.at_, ht.id, ht.seats, ht.why, ht.d0, ht.d1, ht.level⟩, fun h => by cases h⟩
  unfold F_trace_parsed_y3
  cases b with
  | false => rw [cond_false]; exact gR_i base
  | true =>
    rw [cond_true]
    refine gR_ite (fun _ => gR_i base) (fun h4 => ?_)
    obtain ⟨e, he, _⟩ := atI_lt (l := w) (i := 3) (by omega)
    have he : atI w 3 = some e := he
    refine gR_bind he ?_
    obtain ⟨nb, hnb, hname⟩ := Name_some e
    refine gR_bind hnb ?_
    cases nb with
    | false => exact gR_i base
    | true =>
      obtain ⟨hn10, hn32⟩ := hname rfl
      refine gR_bind he ?_
      have leaf : ∀ (bb : Bool) (s wy : Int), s ≤ 9223372036854775807 → wy ≤ 9223372036854775807 → gR (F_trace_parsed_y2 bb a1 a2 a3 a4 a5 a6 a7 t.At t.Kind t.ID e s wy t.Digest) := fun bb s wy h1 h2 => by
        unfold F_trace_parsed_y2
        exact gR_i ⟨⟨ht.at_, ht.id, h1, h2, ht.d0, ht.d1, by show e.length ≤ _; omega⟩, fun _ => .inr (.inr hn10)⟩
      have hs := ht.seats
      have hy := ht.why
      have num : ∀ (lo hi : Int) (f : Int × Bool → Option ((List (List UInt8) × Bool × Int × Int × Int × Int × List UInt8 × Int × Int × Int × Int × Int × Int × List UInt8 × Int × Int × Int) ⊕ (S_Told × Bool))), (w.length : Int) = 5 → (∀ m b, m ≤ 9223372036854775807 → gR (f (m, b))) → gR ((atI w 4).bind fun e => (F_words_Number e lo hi).bind f) := fun lo hi f h5 hf => by
        obtain ⟨e4, he4, _⟩ := atI_lt (l := w) (i := 4) (by omega)
        refine gR_bind he4 ?_
        obtain ⟨m, b, hm, h1, h2⟩ := Number_some e4 lo hi
        exact gR_bind hm (hf m b (by omega))
      have tail : gR (if t.Kind = 1 then F_trace_parsed_y2 false a1 a2 a3 a4 a5 a6 a7 t.At t.Kind t.ID e t.Seats t.Why t.Digest else if t.Kind = 2 then F_trace_parsed_y2 false a1 a2 a3 a4 a5 a6 a7 t.At t.Kind t.ID e t.Seats t.Why t.Digest else if (w.length : Int) = 4 then F_trace_parsed_y2 true a1 a2 a3 a4 a5 a6 a7 t.At t.Kind t.ID e t.Seats t.Why t.Digest else F_trace_parsed_y2 false a1 a2 a3 a4 a5 a6 a7 t.At t.Kind t.ID e t.Seats t.Why t.Digest) :=
        gR_ite (fun _ => leaf _ _ _ hs hy) fun _ => gR_ite (fun _ => leaf _ _ _ hs hy) fun _ => gR_ite (fun _ => leaf _ _ _ hs hy) fun _ => leaf _ _ _ hs hy
      have mid : gR (if t.Kind = 2 then if (w.length : Int) = 5 then (atI w 4).bind fun e69 => (F_words_Number e69 1 99).bind fun r70 => if r70.2 = true then F_trace_parsed_y2 true a1 a2 a3 a4 a5 a6 a7 t.At t.Kind t.ID e t.Seats r70.1 t.Digest else F_trace_parsed_y2 false a1 a2 a3 a4 a5 a6 a7 t.At t.Kind t.ID e t.Seats r70.1 t.Digest
          else if t.Kind = 1 then F_trace_parsed_y2 false a1 a2 a3 a4 a5 a6 a7 t.At t.Kind t.ID e t.Seats t.Why t.Digest else if t.Kind = 2 then F_trace_parsed_y2 false a1 a2 a3 a4 a5 a6 a7 t.At t.Kind t.ID e t.Seats t.Why t.Digest else if (w.length : Int) = 4 then F_trace_parsed_y2 true a1 a2 a3 a4 a5 a6 a7 t.At t.Kind t.ID e t.Seats t.Why t.Digest else F_trace_parsed_y2 false a1 a2 a3 a4 a5 a6 a7 t.At t.Kind t.ID e t.Seats t.Why t.Digest
          else if t.Kind = 1 then F_trace_parsed_y2 false a1 a2 a3 a4 a5 a6 a7 t.At t.Kind t.ID e t.Seats t.Why t.Digest else if t.Kind = 2 then F_trace_parsed_y2 false a1 a2 a3 a4 a5 a6 a7 t.At t.Kind t.ID e t.Seats t.Why t.Digest else if (w.length : Int) = 4 then F_trace_parsed_y2 true a1 a2 a3 a4 a5 a6 a7 t.At t.Kind t.ID e t.Seats t.Why t.Digest else F_trace_parsed_y2 false a1 a2 a3 a4 a5 a6 a7 t.At t.Kind t.ID e t.Seats t.Why t.Digest) := by
        refine gR_ite (fun _ => gR_ite (fun h5 => num 1 99 _ h5 fun m b hm => ?_) fun _ => tail) fun _ => tail
        exact gR_ite (fun _ => leaf _ _ _ hs hm) fun _ => leaf _ _ _ hs hm
      refine gR_ite (fun _ => gR_ite (fun h5 => num 1 16 _ h5 fun m b hm => ?_) fun _ => mid) fun _ => mid
      exact gR_ite (fun _ => leaf _ _ _ hm hy) fun _ => leaf _ _ _ hm hy
theorem parsed_end (w : List (List UInt8)) (hw : 3 ≤ w.length) (b : Bool) (t : S_Told) (ht : okT t) : gR (F_trace_parsed_l4 (w, b, 8, 0, 0, 0, [], 0, 0, 0, t.At, t.Kind, t.ID, t.Level, t.Seats, t.Why, t.Digest)) := by
  have base : gP ⟨t.At, t.Kind, t.ID, t.Level, t.Seats, t.Why, t.Digest⟩ false := ⟨⟨ht.at_, ht.id, ht.seats, ht.why, ht.d0, ht.d1, ht.level⟩, fun h => by cases h⟩
  unfold F_trace_parsed_l4
  dsimp only
  rw [if_neg (by omega)]
  cases b with
  | false => rw [cond_false]; exact gR_i base
  | true =>
    rw [cond_true]
    obtain ⟨e, he, _⟩ := atI_lt (l := w) (i := 2) (by omega)
    have he : atI w 2 = some e := he
    refine gR_ite (fun _ => gR_i base) fun _ => gR_ite (fun h6 => gR_bind he ?_) fun _ => gR_ite (fun h7 => gR_bind he ?_) fun _ => gR_bind he ?_
    · obtain ⟨m, b, hm, h1, h2⟩ := Number_some e 1 99
      refine gR_bind hm ?_
      have : ∀ bb, gP ⟨t.At, t.Kind, t.ID, t.Level, t.Seats, m, t.Digest⟩ bb := fun bb => ⟨⟨ht.at_, ht.id, ht.seats, by show m ≤ _; omega, ht.d0, ht.d1, ht.level⟩, fun _ => .inl h6⟩
      exact gR_ite (fun _ => gR_ite (fun _ => gR_i (this _)) fun _ => gR_i (this _)) fun _ => gR_i (this _)
    · obtain ⟨m, b, hm, h1, h2⟩ := Unhex_some e
      refine gR_bind hm ?_
      have : ∀ bb, gP ⟨t.At, t.Kind, t.ID, t.Level, t.Seats, t.Why, m⟩ bb := fun bb => ⟨⟨ht.at_, ht.id, ht.seats, ht.why, h1, h2, ht.level⟩, fun _ => .inr (.inl h7)⟩
      exact gR_ite (fun _ => gR_ite (fun _ => gR_i (this _)) fun _ => gR_i (this _)) fun _ => gR_i (this _)
    · obtain ⟨m, b, hm, h1, h2⟩ := Number_some e 0 999999999
      refine gR_bind hm ?_
      have hok : okT ⟨t.At, t.Kind, m, t.Level, t.Seats, t.Why, t.Digest⟩ := ⟨ht.at_, by show m ≤ _; omega, ht.seats, ht.why, ht.d0, ht.d1, ht.level⟩
      exact gR_ite (fun _ => y3_some w true _ _ _ _ _ _ _ _ hok) fun _ => y3_some w false _ _ _ _ _ _ _ _ hok
theorem parsed_loop (w : List (List UInt8)) (hw : 3 ≤ w.length) (b : Bool) : ∀ (n k : Nat), n + k = 8 → ∀ t : S_Told, okT t →
    ∃ t' b', iterO F_trace_parsed_l4 (w, b, (k : Int), 0, 0, 0, [], 0, 0, 0, t.At, t.Kind, t.ID, t.Level, t.Seats, t.Why, t.Digest) = some (t', b') ∧ gP t' b' := by
  intro n
  induction n with
  | zero =>
    intro k hk t ht
    have : k = 8 := by omega
    subst this
    obtain ⟨t', b', h1, h2⟩ := parsed_end w hw b t ht
    exact ⟨t', b', iterO_inr h1, h2⟩
  | succ n ih =>
    intro k hk t ht
    obtain ⟨e, he, _⟩ := atI_lt (l := w) (i := 1) (by omega)
    have he : atI w 1 = some e := he
    obtain ⟨v, hv, _, _⟩ := verb_some (k : Int)
    have hck : ck ((k : Int) + 1) := by unfold ck; omega
    by_cases hev : e = v
    · obtain ⟨t', b', h1, h2⟩ := ih (k + 1) (by omega) ⟨t.At, k, t.ID, t.Level, t.Seats, t.Why, t.Digest⟩ ⟨ht.at_, ht.id, ht.seats, ht.why, ht.d0, ht.d1, ht.level⟩
      refine ⟨t', b', iterO_inl ?_ h1, h2⟩
      unfold F_trace_parsed_l4
      dsimp only
      rw [if_pos (by omega), he, Option.bind_some, hv, Option.bind_some, if_pos hev]
      unfold F_trace_parsed_y1
      rw [if_pos hck]
      rfl
    · obtain ⟨t', b', h1, h2⟩ := ih (k + 1) (by omega) t ht
      refine ⟨t', b', iterO_inl ?_ h1, h2⟩
      unfold F_trace_parsed_l4
      dsimp only
      rw [if_pos (by omega), he, Option.bind_some, hv, Option.bind_some, if_neg hev]
      unfold F_trace_parsed_y1
      rw [if_pos hck]
      rfl
theorem parsed_some (w : List (List UInt8)) : ∃ t b, F_trace_parsed w = some (t, b) ∧ gP t b := by
  unfold F_trace_parsed
  by_cases h : (w.length : Int) < 3
  · exact ⟨_, _, by rw [if_pos h], ⟨by decide, by decide, by decide, by decide, by decide, by decide, by decide⟩, fun h => by cases h⟩
  · rw [if_neg h]
    obtain ⟨e, he, _⟩ := atI_lt (l := w) (i := 0) (by omega)
    have he : atI w 0 = some e := he
    obtain ⟨m, b, hm, h1, h2⟩ := Number_some e 0 999999999
    rw [he, Option.bind_some, hm, Option.bind_some]
    have go : ∀ bb, ∃ t b, F_trace_parsed_y5 w bb m = some (t, b) ∧ gP t b := fun bb =>
      parsed_loop w (by omega) bb 7 1 rfl ⟨m, 0, 0, [], 0, 0, 0⟩ ⟨by show m ≤ _; omega, by simp, by simp, by simp, by simp, by simp, by simp⟩
    by_cases hb : b = true
    · rw [if_pos hb]; exact go true
    · rw [if_neg hb]; exact go false
theorem Read_some (s : List UInt8) (hs : s.length ≤ 1073741824) : ∃ t e, F_trace_Read s = some (t, e) ∧ (e = 0 → okT t ∧ F_trace_line t = some s ∧ (t.Kind = 6 ∨ t.Kind = 7 ∨ 10 ∉ t.Level)) := by
  unfold F_trace_Read F_words_Words L_Fields
  rw [if_pos hs, Option.bind_some]
  obtain ⟨t, b, h1, h2, h3⟩ := parsed_some ((Lib.goFieldsP isSp (str s)).map bs)
  rw [h1, Option.bind_some]
  by_cases hb : b = true
  · rw [if_pos hb]
    obtain ⟨x, hx, _, _⟩ := line_some h2
    rw [hx, Option.bind_some]
    by_cases hxs : x = s
    · exact ⟨t, 0, by rw [if_pos hxs], fun _ => ⟨h2, by rw [hx, hxs], h3 hb⟩⟩
    · exact ⟨_, 2, by rw [if_neg hxs], fun h => by omega⟩
  · exact ⟨_, 2, by rw [if_neg hb], fun h => by omega⟩
theorem Write_some {t : S_Told} (ht : okT t) : ∃ x e, F_trace_Write t = some (x, e) ∧ x.length ≤ 4194304 := by
  obtain ⟨x, hx, hl, _⟩ := line_some ht
  obtain ⟨u, e, hr, _⟩ := Read_some x (by omega)
  unfold F_trace_Write
  rw [hx, Option.bind_some, hr, Option.bind_some]
  by_cases he : e = 0
  · rw [if_pos he]
    by_cases hu : u = t
    · exact ⟨x, 0, by rw [if_pos hu], by omega⟩
    · exact ⟨[], 2, by rw [if_neg hu], by simp⟩
  · exact ⟨[], 2, by rw [if_neg he], by simp⟩
theorem Write_no10 {t : S_Told} (ht : okT t) {x : List UInt8} (h : F_trace_Write t = some (x, 0)) : 10 ∉ x := by
  obtain ⟨h1, h2⟩ := Write_read h
  obtain ⟨y, hy, hl, hn⟩ := line_some ht
  rw [h2] at hy
  injection hy with hy
  subst hy
  obtain ⟨u, e, h3, h4⟩ := Read_some x (by omega)
  rw [h1] at h3
  injection h3 with h3
  injection h3 with h5 h6
  subst h5 h6
  exact hn (h4 rfl).2.2
end Go.Abs
