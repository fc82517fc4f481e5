/- Code in continuation form: that it stands for the machine's run; contracts. No program text. -/
import Derived.Test.YtlglooieeadkmaaDoorCps3
set_option linter.unusedVariables false
set_option linter.unusedSimpArgs false
namespace Go.Abs
open Go Go.RowKit
theorem W2_ok {S : Sys} {O : Origin} (hO : OWf S O) {fr N : Nat} {D : Array Oper → Env → Heap → (Env → Heap → Prop) → Prop} (hD : DOkP S fr D) :
    ∀ (c : Code) (hi : Hint) (e : Env) (H : Heap) (Q : AExit → Env → Heap → Prop), W2 S fr D c hi e H Q → codeOk N c = true →
    ∀ (α : Nat → Option Nat) (w : World) (a : Act) (Q' : Exit → Act → World → Prop), Sat O e H α w a N →
      (∀ z e' H' α' w' a', Sat O e' H' α' w' a' N → LaterS O H α w H' α' w' → Q z e' H' → Q' (conv z) a' w') → c.wp S.P Q' a w := by
  intro c
  induction c with
  | skip => intro hi e H Q h hc α w a Q' hs hq; exact AWp_ok (fr := fr) hO .skip e H Q h hc α w a Q' hs hq
  | region id ops draw =>
    intro hi e H Q h hc α w a Q' hs hq
    cases draw with
    | true =>
      obtain ⟨hm, W, h⟩ := hD _ _ _ _ h
      obtain ⟨hB, hL⟩ := hs.base.drewN 1
      have hdst : ∀ (i : Nat) (o : Oper), ops[i]? = some o → o.dst.all (· < N) = true := fun i o ho => by
        simp only [codeOk, Array.all_eq_true_iff_forall_mem] at hc
        exact hc o (Array.mem_of_getElem? ho)
      exact wp_region_any hm (AAnyP_ok hO hdst _ _ e H h α _ a ⟨hB, hs.env.later hL, hs.size, hs.defs⟩ fun e' H' α' w' a' h1 h2 h3 => hq .normal e' H' α' w' a' h1 (hL.trans h2) h3)
    | false => exact AWp_ok (fr := fr) hO (.region id ops false) e H Q (W2ops_ok _ _ _ h) hc α w a Q' hs hq
  | seq x y ihx ihy =>
    intro hi e H Q h hc α w a Q' hs hq
    simp only [codeOk, Bool.and_eq_true] at hc
    unfold W2 at h
    split at h
    · refine wp_seq (ihx hi.a e H _ h hc.1 α w a _ hs fun z e' H' α' w' a' h1 h2 h3 => ?_)
      cases z with
      | normal => exact ihy hi.b _ H' Q h3 hc.2 α' w' a' Q' (h1.keep _) fun z e2 H2 α2 w2 a2 k1 k2 k3 => hq z e2 H2 α2 w2 a2 k1 (h2.trans k2) k3
      | exit i => exact hq _ e' H' α' w' a' h1 h2 h3
      | ret => exact hq _ e' H' α' w' a' h1 h2 h3
    · refine wp_seq (ihx hi.a e H _ h hc.1 α w a _ hs fun z e' H' α' w' a' h1 h2 h3 => ?_)
      cases z with
      | normal => exact ihy hi.b e' H' Q h3 hc.2 α' w' a' Q' h1 fun z e2 H2 α2 w2 a2 k1 k2 k3 => hq z e2 H2 α2 w2 a2 k1 (h2.trans k2) k3
      | exit i => exact hq _ e' H' α' w' a' h1 h2 h3
      | ret => exact hq _ e' H' α' w' a' h1 h2 h3
  | cond c x y ihx ihy =>
    intro hi e H Q h hc α w a Q' hs hq
    simp only [codeOk, Bool.and_eq_true] at hc
    unfold W2 condK at h
    split at h
    · rename_i t ht
      have h0 := ev_ok hs.env c
      rw [ht] at h0
      refine wp_cond (t := t) h0.v_inv ?_
      cases t
      · exact ihy hi.b e H Q h hc.2 α w a Q' hs hq
      · exact ihx hi.a e H Q h hc.1 α w a Q' hs hq
    · exact h.elim
  | block id c ih =>
    intro hi e H Q h hc α w a Q' hs hq
    refine wp_block (ih hi.a e H _ h hc α w a _ hs fun z e' H' α' w' a' h1 h2 h3 => ?_)
    cases z with
    | normal => exact hq _ e' H' α' w' a' h1 h2 h3
    | ret => exact hq _ e' H' α' w' a' h1 h2 h3
    | exit i =>
      simp only [conv, Exit.inBlock]
      simp only at h3
      split at h3
      · rename_i hb
        rw [if_pos (Nat.eq_of_beq_eq_true hb)]
        exact hq _ e' H' α' w' a' h1 h2 h3
      · rename_i hb
        rw [if_neg (Nat.ne_of_beq_eq_false hb)]
        exact hq _ e' H' α' w' a' h1 h2 h3
  | loop c ih =>
    intro hi e H Q h hc α w a Q' hs hq
    unfold W2 LoopK at h
    refine wp_loop_lfp fun J hJ => ?_
    refine h (fun vs H1 => ∀ α1 w1 a1, Sat O (mkE hi.L vs) H1 α1 w1 a1 N → LaterS O H α w H1 α1 w1 → J a1 w1) (fun vs H1 h1 α1 w1 a1 s1 l1 => hJ _ _ ?_) α w a (hs.keep _) (Later.refl _ _ _ _)
    refine ih hi.a _ H1 _ h1 hc α1 w1 a1 _ s1 fun z e2 H2 α2 w2 a2 k1 k2 k3 => ?_
    cases z with
    | normal => exact k3 α2 w2 a2 (k1.keep _) (l1.trans k2)
    | exit i => exact hq _ e2 H2 α2 w2 a2 k1 (l1.trans k2) k3
    | ret => exact hq _ e2 H2 α2 w2 a2 k1 (l1.trans k2) k3
  | exit id => intro hi e H Q h hc α w a Q' hs hq; exact AWp_ok (fr := fr) hO (.exit id) e H Q h hc α w a Q' hs hq
  | ret => intro hi e H Q h hc α w a Q' hs hq; exact AWp_ok (fr := fr) hO .ret e H Q h hc α w a Q' hs hq
  | _ => intro hi e H Q h; exact h.elim

section
variable {S : Sys}
theorem APure.of_call {P : Program} (hP : S.P = P) {g : Nat} {xs : List AV} {r : AV} (hent : enters P g = true) (h : ACall S g xs H0 fun r0 H' => Fz (fun _ => True) H' r0 r) : APure S g xs r := by
  subst hP
  refine ⟨hent, fun w ok vs hG hgt hok' hc => ?_⟩
  have hO : OWf S ⟨w, ok, fun _ => False⟩ := ⟨hG, hgt, fun b h => h.elim, fun b h => ⟨hok' b h, fun h => h⟩⟩
  have hB : Base ⟨w, ok, fun _ => False⟩ H0 (fun _ => none) w := ⟨rfl, rfl, rfl, Nat.le_refl _, (fun _ _ _ => rfl), (fun d h => by cases h), (fun d d' b h => by cases h), (fun d b h => by cases h)⟩
  have := h.2 _ hO (fun _ => none) w vs hB ⟨hc.1, fun j x v h1 h2 => .d _ _ ((hc.2 j x v h1 h2).mono (fun _ _ => rfl) fun b hb => ⟨.inl hb, (fun d h => by cases h)⟩)⟩
  refine this.mono ?_
  rintro e w' ⟨v, r0, H', α', rfl, hB', hL, hc', hfz⟩
  refine ⟨v, rfl, ⟨hB'.os, hB'.tape, hB'.output, hB'.size, fun b hb => hB'.block b hb fun h => h⟩, ?_⟩
  refine hfz _ α' w' v _ hB' (fun b hb => hb.1) (fun d b _ hl ha => .inr ⟨?_, hB'.lt hl ha⟩) hc'
  rcases hB'.new d b hl ha with h | h
  · exact h
  · exact h.elim
end
end Go.Abs
namespace Go.Abs
open Go Go.RowKit
def rsW (P : Program) (e : Env) (H : Heap) : List ResultVar → List AV → (List AV → Prop) → Prop
  | [], acc, k => k acc.reverse
  | .tmp t :: r, acc, k => rsW P e H r (e t :: acc) k
  | .cell a t :: r, acc, k => pK (ld (lI P t) H (e a)) fun x => rsW P e H r (x :: acc) k
def oneOf : List AV → AV
  | [x] => x
  | l => .tuple l
def EndW (P : Program) (fn : Func) (K : AV → Heap → Prop) (z : AExit) (e : Env) (H : Heap) : Prop := match z with
  | .exit _ => False
  | _ => rsW P e H fn.results.toList [] fun l => K (oneOf l) H
theorem rsW_ok {P : Program} {e : Env} {H : Heap} {k : List AV → Prop} : ∀ (rs : List ResultVar) (acc : List AV), rsW P e H rs acc k → ∃ l, resL P e H rs = some l ∧ k (acc.reverse ++ l)
  | [], acc, h => ⟨[], rfl, by rw [List.append_nil]; exact h⟩
  | .tmp t :: r, acc, h => by
    obtain ⟨l, h1, h2⟩ := rsW_ok r _ h
    exact ⟨e t :: l, by simp [resL, h1], by simpa using h2⟩
  | .cell a t :: r, acc, h => by
    obtain ⟨x, hx, h⟩ := pK_some h
    obtain ⟨l, h1, h2⟩ := rsW_ok r _ h
    have : aLoad P H t (e a) = some x := hx
    exact ⟨x :: l, by simp [resL, h1, this], by simpa using h2⟩
theorem EndW_ok {P : Program} {fn : Func} {K : AV → Heap → Prop} {z : AExit} {e : Env} {H : Heap} (h : EndW P fn K z e H) : Ends P fn K z e H := by
  have fin : rsW P e H fn.results.toList [] (fun l => K (oneOf l) H) → match resA P fn e H with | some r => K r H | none => False := fun h => by
    obtain ⟨l, h1, h2⟩ := rsW_ok _ _ h
    unfold resA
    rw [h1]
    simp only [Option.map_some]
    simp only [List.reverse_nil, List.nil_append] at h2
    match l, h2 with
    | [], h2 => exact h2
    | [x], h2 => exact h2
    | x :: y :: r, h2 => exact h2
  cases z with
  | exit i => exact h.elim
  | normal => exact fin h
  | ret => exact fin h
def cOf (fn : Func) : Code := fn.body.getD .skip
/-- A contract out of a body's text. -/
theorem ACall.body3 {S : Sys} {g : Nat} {fn : Func} {c : Code} {xs : List AV} {H : Heap} {K : AV → Heap → Prop} (fr : Nat) {D : Array Oper → Env → Heap → (Env → Heap → Prop) → Prop} (hD : DOkP S fr D) (hi : Hint) (hf : S.P.funcs[g]? = some fn) (hb : fn.body = some c) (hent : enters S.P g = true) (hok : codeOk fn.ntmps c = true) (hn : (Nat.ble xs.length fn.ntmps) = true)
    {B : Prop} (hw : W2 S fr D c hi (argE xs) H (EndW S.P fn K) = B) (h : B) : ACall S g xs H K := by
  subst hw
  refine ⟨hent, fun O hO α w vs hB hc => calls_of_wp hf hb ?_⟩
  have hs : Sat O (argE xs) H α w { tmps := vs ++ Array.replicate (fn.ntmps - vs.size) undef, defers := [] } fn.ntmps :=
    ⟨hB, start_env hc _, by have := hc.1; have := Nat.le_of_ble_eq_true hn; simp; omega, rfl⟩
  refine W2_ok hO hD c hi _ H _ h hok α w _ _ hs fun z e' H' α' w' a' h1 h2 h3 => ?_
  replace h3 := EndW_ok h3
  have fin : (match resA S.P fn e' H' with | some r => K r H' | none => False) → a'.defers = [] ∧ ∃ v, (results fn a'.tmps).run S.P w' = .ok v w' ∧
      ∃ v' r H2 α2, Ending.returned v = .returned v' ∧ Base O H2 α2 w' ∧ LaterS O H α w H2 α2 w' ∧ Conc w' (okA O w' H2 α2) H2 α2 r v' ∧ K r H2 := by
    intro hk
    refine ⟨h1.defs, ?_⟩
    split at hk
    · rename_i r hr
      obtain ⟨v, g1, g2⟩ := resA_run h1.base h1.env hr
      exact ⟨v, g1, v, r, H', α', rfl, h1.base, h2, g2, hk⟩
    · exact hk.elim
  cases z with
  | normal => exact fin h3
  | ret => exact fin h3
  | exit i => exact h3.elim
end Go.Abs
