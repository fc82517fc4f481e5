/- Code in continuation form. No program text. -/
import Derived.Test.YtlglooieeadkmaaDoorCps0
set_option linter.unusedVariables false
set_option linter.unusedSimpArgs false
namespace Go.Abs
open Go Go.RowKit

def gdst (ops : Array Oper) (e : Env) (j : Nat) : AV := match (ops[j]?).bind (·.dst) with
  | some d => e d
  | none => .bot
def W2ops (S : Sys) (fr : Nat) (ops : Array Oper) : List Oper → Env → Heap → (Env → Heap → Prop) → Prop
  | [], e, H, K => K e H
  | o :: rest, e, H, K => match o.guard with
    | none => opW S (fr + o.dst.getD 0) o e H fun x H' => W2ops S fr ops rest (putE e o.dst x) H' K
    | some (j, want) => grdK (gdst ops e j) want H (fun k => opW S (fr + o.dst.getD 0) o e H k) fun x H' => W2ops S fr ops rest (putE e o.dst x) H' K

theorem grdK_ok {ops : Array Oper} {e : Env} {H : Heap} {o : Oper} {j : Nat} {want : Bool} {X : (AV → Heap → Prop) → Prop} {k : AV → Heap → Prop} (hg : o.guard = some (j, want)) (h : grdK (gdst ops e j) want H X k) :
    guardOf ops e o = some true ∧ X k ∨ guardOf ops e o = some false ∧ k (.v undef) H := by
  unfold grdK at h
  unfold guardOf
  rw [hg]
  simp only
  unfold gdst at h
  cases hd : (ops[j]?).bind (·.dst) with
  | none => rw [hd] at h; exact h.elim
  | some d =>
    rw [hd] at h
    simp only at h ⊢
    split at h
    · rename_i b hb
      rw [hb]
      simp only
      cases hbw : (b == want) with
      | true => rw [hbw, if_pos rfl] at h; exact .inl ⟨rfl, h⟩
      | false => rw [hbw, if_neg (by simp)] at h; exact .inr ⟨rfl, h⟩
    · rename_i q hb
      rw [hb]
      exact .inr ⟨rfl, h⟩
    · exact h.elim

theorem W2ops_ok {S : Sys} {fr : Nat} {ops : Array Oper} {K : Env → Heap → Prop} : ∀ (l : List Oper) (e : Env) (H : Heap), W2ops S fr ops l e H K → AOps S fr ops l e H K
  | [], e, H, h => h
  | o :: rest, e, H, h => by
    unfold W2ops at h
    simp only [AOps]
    split at h
    · rename_i hg
      have : guardOf ops e o = some true := by simp only [guardOf, hg]
      rw [this]
      exact AOp1_mono (opW_ok h) fun x H' hk => W2ops_ok rest _ _ hk
    · rename_i j want hg
      rcases grdK_ok hg h with ⟨h1, h2⟩ | ⟨h1, h2⟩
      · rw [h1]
        exact AOp1_mono (opW_ok h2) fun x H' hk => W2ops_ok rest _ _ hk
      · rw [h1]
        exact W2ops_ok rest _ _ h2

/-- which variables are kept at a place where ways meet, or at a loop's head -/
inductive Hint where
  | o
  | n (a b : Hint)
  | j (L : List Nat) (a b : Hint)
def Hint.isJ : Hint → Bool
  | .j _ _ _ => true
  | _ => false
def Hint.L : Hint → List Nat
  | .j L _ _ => L
  | _ => []
def Hint.a : Hint → Hint
  | .o => .o
  | .n a _ => a
  | .j _ a _ => a
def Hint.b : Hint → Hint
  | .o => .o
  | .n _ b => b
  | .j _ _ b => b
abbrev g (vs : List AV) (n : Nat) : AV := vs.getD n .bot
def place : List Nat → Nat → Option Nat
  | [], _ => none
  | l :: L, i => match Nat.beq l i with
    | true => some 0
    | false => match place L i with
      | some n => some (n + 1)
      | none => none
def mkE (L : List Nat) (vs : List AV) : Env := fun i => match place L i with
  | some n => vs.getD n .bot
  | none => .bot
theorem place_spec : ∀ {L : List Nat} {i n : Nat}, place L i = some n → L[n]? = some i
  | l :: L, i, n, h => by
    unfold place at h
    split at h
    · rename_i hb
      injection h with h
      subst h
      simp [Nat.eq_of_beq_eq_true hb]
    · split at h
      · rename_i m hm
        injection h with h
        subst h
        simpa using place_spec hm
      · cases h
theorem mkE_map (L : List Nat) (e : Env) (i : Nat) : mkE L (L.map e) i = e i ∨ mkE L (L.map e) i = .bot := by
  unfold mkE
  split
  · rename_i n hn
    have := place_spec hn
    left
    rw [List.getD_eq_getElem?_getD, List.getElem?_map, this]
    rfl
  · exact .inr rfl

def W2 (S : Sys) (fr : Nat) (D : Array Oper → Env → Heap → (Env → Heap → Prop) → Prop) : Code → Hint → Env → Heap → (AExit → Env → Heap → Prop) → Prop
  | .skip, h, e, H, Q => Q .normal e H
  | .region _ ops false, h, e, H, Q => W2ops S fr ops ops.toList e H fun e' H' => Q .normal e' H'
  | .region _ ops true, h, e, H, Q => D ops e H fun e' H' => Q .normal e' H'
  | .seq x y, h, e, H, Q => match h.isJ with
    | true => joinK (fun k => W2 S fr D x h.a e H fun z e' H' => match z with
      | .normal => k (h.L.map e') H'
      | z => Q z e' H') fun vs H' => W2 S fr D y h.b (mkE h.L vs) H' Q
    | false => W2 S fr D x h.a e H fun z e' H' => match z with
      | .normal => W2 S fr D y h.b e' H' Q
      | z => Q z e' H'
  | .cond c x y, h, e, H, Q => condK (ev e c) (W2 S fr D x h.a e H Q) (W2 S fr D y h.b e H Q)
  | .block id c, h, e, H, Q => W2 S fr D c h.a e H fun z e' H' => match z with
    | .exit i => match Nat.beq i id with
      | true => Q .normal e' H'
      | false => Q (.exit i) e' H'
    | z => Q z e' H'
  | .loop c, h, e, H, Q => LoopK (fun k vs H' => W2 S fr D c h.a (mkE h.L vs) H' fun z e2 H2 => match z with
    | .normal => k (h.L.map e2) H2
    | z => Q z e2 H2) (h.L.map e) H
  | .exit id, h, e, H, Q => Q (.exit id) e H
  | .ret, h, e, H, Q => Q .ret e H
  | _, _, _, _, _ => False

theorem EnvOk.keep {w : World} {ok : Nat → Prop} {H : Heap} {α : Nat → Option Nat} {e : Env} {a : Act} (h : EnvOk w ok H α e a) (L : List Nat) : EnvOk w ok H α (mkE L (L.map e)) a := by
  intro i
  rcases mkE_map L e i with h1 | h1
  · rw [h1]; exact h i
  · rw [h1]; exact .d _ _ (.bot _)
theorem Sat.keep {O : Origin} {e : Env} {H : Heap} {α : Nat → Option Nat} {w : World} {a : Act} {N : Nat} (h : Sat O e H α w a N) (L : List Nat) : Sat O (mkE L (L.map e)) H α w a N :=
  ⟨h.base, h.env.keep L, h.size, h.defs⟩

theorem wp_loop_lfp {P : Program} {c : Code} {Q : Exit → Act → World → Prop} {a : Act} {w : World}
    (h : ∀ J : Act → World → Prop, (∀ a w, c.wp P (Exit.then J Q) a w → J a w) → J a w) : (Code.loop c).wp P Q a w := by
  intro b k cs
  have := h (fun a w => ∃ e a' w', Q e a' w' ∧ Arrives P (lone (b.at a (.code c :: .inLoop c :: k)) cs w) b k cs e a' w') fun a w h => by
    obtain ⟨e, a₁, w₁, hq, harr⟩ := h b (.inLoop c :: k) cs
    cases e with
    | normal =>
      obtain ⟨e₂, a₂, w₂, hq₂, harr₂⟩ := hq
      exact ⟨e₂, a₂, w₂, hq₂, .of_steps (Steps.trans harr (.one step_inLoop)) harr₂⟩
    | exit id => exact ⟨_, a₁, w₁, hq, .pass (x := .inLoop c) rfl (fun _ _ => .inl (by simp)) harr⟩
    | goto l => exact ⟨_, a₁, w₁, hq, .pass (x := .inLoop c) rfl (fun _ _ => .inl (by simp)) harr⟩
    | ret => exact ⟨_, a₁, w₁, hq, .pass (x := .inLoop c) rfl (fun _ _ => .inl (by simp)) harr⟩
    | panic ch => exact ⟨_, a₁, w₁, hq, .pass (x := .inLoop c) rfl (fun _ _ => .inl (by simp)) harr⟩
    | outgrown => exact ⟨_, a₁, w₁, hq, .pass (x := .inLoop c) rfl (fun _ _ => .inl (by simp)) harr⟩
  obtain ⟨e, a', w', hq, harr⟩ := this
  exact ⟨e, a', w', hq, .of_steps (.one step_loop) harr⟩

/-! ### rules -/
theorem joinK_rule {X : (List AV → Heap → Prop) → Prop} {Y : List AV → Heap → Prop} (M : List AV → Heap → Prop) (h : ∀ k : List AV → Heap → Prop, (∀ vs H, M vs H → k vs H) → X k) (g : ∀ vs H, M vs H → Y vs H) : joinK X Y := h Y g
theorem joinK_in {X : (List AV → Heap → Prop) → Prop} {Y : List AV → Heap → Prop} (h : X Y) : joinK X Y := h
/-- a loop: typed states, and a number that falls -/
theorem LoopK_rule {F : (List AV → Heap → Prop) → List AV → Heap → Prop} {σ : Type} (μ : σ → Nat) (R : σ → List AV → Heap → Prop)
    (hstep : ∀ s vs H, R s vs H → ∀ J : List AV → Heap → Prop, (∀ s' vs' H', μ s' < μ s → R s' vs' H' → J vs' H') → F J vs H) (s : σ) {vs : List AV} {H : Heap} (h : R s vs H) : LoopK F vs H := by
  intro J hJ
  suffices ∀ n s vs H, μ s = n → R s vs H → J vs H from this _ s vs H rfl h
  intro n
  induction n using Nat.strongRecOn with
  | _ n ih => exact fun s vs H hn hr => hJ _ _ (hstep s vs H hr J fun s' vs' H' hlt hr' => ih (μ s') (by omega) s' vs' H' rfl hr')
end Go.Abs
