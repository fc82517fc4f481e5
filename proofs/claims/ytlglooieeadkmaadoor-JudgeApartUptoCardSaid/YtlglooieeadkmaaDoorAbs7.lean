/- Calls, lists of operations, code: what suffices for a body to come to its end. No program text. -/
import Derived.Test.YtlglooieeadkmaaDoorAbs6
import Derived.Orders
set_option linter.unusedVariables false
set_option linter.unusedSimpArgs false
namespace Go.Abs
open Go Go.RowKit

def enters (P : Program) (g : Nat) : Bool := match P.funcs[g]? with
  | some fn => fn.name != "runtime.NumGoroutine" && fn.body.isSome
  | none => false
theorem enters_run {P : Program} {g : Nat} (h : enters P g = true) (vs : Array Value) (w : World) : (callFunc g vs).run P w = .ok (.enter g vs) w := by
  unfold enters at h
  cases hf : P.funcs[g]? with
  | none => simp [hf] at h
  | some fn =>
    simp only [hf, Bool.and_eq_true, bne_iff_ne, ne_eq] at h
    cases hb : fn.body with
    | none => simp [hb] at h
    | some c => simp [callFunc, program, Sem.run, hf, h.1, hb]

def ConcL (w : World) (ok : Nat → Prop) (H : Heap) (α : Nat → Option Nat) (xs : List AV) (vs : Array Value) : Prop :=
  xs.length = vs.size ∧ ∀ (j : Nat) (x : AV) (v : Value), xs[j]? = some x → vs[j]? = some v → Conc w ok H α x v

/-- A call comes back, whatever the world, and what it hands back and has made of the objects meets K. -/
def ACall (S : Sys) (g : Nat) (xs : List AV) (H : Heap) (K : AV → Heap → Prop) : Prop :=
  enters S.P g = true ∧ ∀ (O : Origin), OWf S O → ∀ (α : Nat → Option Nat) (w : World) (vs : Array Value), Base O H α w → ConcL w (okA O w H α) H α xs vs →
    Calls S.P g vs w fun e w' => ∃ v r H' α', e = .returned v ∧ Base O H' α' w' ∧ LaterS O H α w H' α' w' ∧ Conc w' (okA O w' H' α') H' α' r v ∧ K r H'

theorem ACall.mono {S : Sys} {g : Nat} {xs : List AV} {H : Heap} {K K' : AV → Heap → Prop} (h : ACall S g xs H K) (hk : ∀ r H', K r H' → K' r H') : ACall S g xs H K' :=
  ⟨h.1, fun O hO α w vs hB hc => (h.2 O hO α w vs hB hc).mono fun e w' ⟨v, r, H', α', h1, h2, h3, h4, h5⟩ => ⟨v, r, H', α', h1, h2, h3, h4, hk _ _ h5⟩⟩

def ConcDL (w : World) (ok : Nat → Prop) (xs : List AV) (vs : Array Value) : Prop :=
  xs.length = vs.size ∧ ∀ (j : Nat) (x : AV) (v : Value), xs[j]? = some x → vs[j]? = some v → ConcD w ok x v

/-- A call that only computes: it comes back with what reads as r, and has turned nothing. -/
def APure (S : Sys) (g : Nat) (xs : List AV) (r : AV) : Prop :=
  enters S.P g = true ∧ ∀ (w : World) (ok : Nat → Prop) (vs : Array Value), S.G w → S.gt ≤ w.heap.size → (∀ b, ok b → b < w.heap.size) → ConcDL w ok xs vs →
    Calls S.P g vs w fun e w' => ∃ v, e = .returned v ∧ Below w.heap.size w w' ∧
      ConcD w' (fun b => ok b ∨ (w.heap.size ≤ b ∧ b < w'.heap.size)) r v

section
variable {S : Sys} {O : Origin} {H : Heap} {α : Nat → Option Nat} {w : World}

theorem Base.below {w' : World} (hO : OWf S O) (hB : Base O H α w) (hb : Below w.heap.size w w') : Base O H α w' ∧ LaterS O H α w H α w' := by
  have hk : ∀ (b : Nat) (c : Array Value) (t : TypeId) (fr : Nat × Nat), w.heap[b]? = some (Obj.cells c t fr) → ∃ c' : Array Value, w'.heap[b]? = some (Obj.cells c' t fr) ∧ c'.size = c.size := fun b c t fr h =>
    ⟨c, (hb.block b (Array.getElem?_eq_some_iff.1 h).1).trans h, rfl⟩
  have L : LaterS O H α w H α w' := by
    refine ⟨fun b h => hb.block b (okA_lt hO hB.size h), fun b h => ⟨?_, h.2⟩, hk, fun _ => Nat.le_refl _, fun _ _ h => ⟨h, rfl, Nat.le_refl _⟩⟩
    rcases h.1 with h1 | h1
    · exact .inl h1
    · exact .inr ⟨h1.1, by have := hb.size; omega⟩
  exact ⟨⟨hb.os.trans hB.os, hb.tape.trans hB.tape, hb.output.trans hB.output, Nat.le_trans hB.size hb.size, fun b h1 h2 => (hb.block b (by have := hB.size; omega)).trans (hB.block b h1 h2),
    fun d hd => relObj_keep (hB.obj d hd) L rfl rfl fun b h => hb.block b (hB.lt hd h), hB.inj, hB.new⟩, L⟩

/-- A pure call, in any state. -/
theorem ACall.pure {g : Nat} {xs : List AV} {r : AV} {K : AV → Heap → Prop} (h : APure S g xs r) (hp : ∀ x ∈ xs, Pure x) (hk : K r H) : ACall S g xs H K := by
  refine ⟨h.1, fun O hO α w vs hB hc => ?_⟩
  refine (h.2 w (okA O w H α) vs (hB.glob hO) (hB.gtle hO) (fun b hb => okA_lt hO hB.size hb) ⟨hc.1, fun j x v h1 h2 => (hc.2 j x v h1 h2).pure (hp x (List.mem_of_getElem? h1))⟩).mono ?_
  rintro e w' ⟨v, rfl, hb, hr⟩
  obtain ⟨hB', hL⟩ := hB.below hO hb
  refine ⟨v, r, H, α, rfl, hB', hL, .d _ _ (hr.mono (fun _ _ => rfl) fun b hb' => ?_), hk⟩
  rcases hb' with h1 | h1
  · exact hL.ok b h1
  · refine ⟨.inr ⟨by have := hB.size; omega, h1.2⟩, fun d hd e => ?_⟩
    have := hB.lt hd e
    omega

/-! ### lists of operations -/
def putE (e : Env) (d : Option Tmp) (x : AV) : Env := match d with
  | some d => upd e d x
  | none => e
def guardOf (ops : Array Oper) (e : Env) (o : Oper) : Option Bool := match o.guard with
  | none => some true
  | some (j, want) => match (ops[j]?).bind (·.dst) with
    | some d => match e d with
      | .v (.bool b) => some (b == want)
      | .v (.tuple _) => some false
      | _ => none
    | none => none

def AOp1 (S : Sys) (fr : Nat) (o : Oper) (e : Env) (H : Heap) (K : AV → Heap → Prop) : Prop :=
  match o.op with
  | .call { callee := .value f, args, argTypes := _ } => match ev e f with
    | .fn g caps => ACall S g (args.toList.map (ev e) ++ caps) H K
    | _ => False
  | _ => match aop S.P o (fr + o.dst.getD 0) e H with
    | some (x, H') => K x H'
    | none => False

def AOps (S : Sys) (fr : Nat) (ops : Array Oper) : List Oper → Env → Heap → (Env → Heap → Prop) → Prop
  | [], e, H, K => K e H
  | o :: rest, e, H, K => match guardOf ops e o with
    | some true => AOp1 S fr o e H fun x H' => AOps S fr ops rest (putE e o.dst x) H' K
    | some false => AOps S fr ops rest (putE e o.dst (.v undef)) H K
    | none => False

theorem AOp1_mono {S : Sys} {fr : Nat} {o : Oper} {e : Env} {H : Heap} {K K' : AV → Heap → Prop} (h : AOp1 S fr o e H K) (hk : ∀ x H, K x H → K' x H) : AOp1 S fr o e H K' := by
  unfold AOp1 at h ⊢
  split
  · rename_i f args ts hop
    rw [hop] at h
    simp only at h
    split
    · rename_i g caps hf
      rw [hf] at h
      exact h.mono hk
    · rename_i hf
      split at h
      · rename_i g caps hf'
        exact (hf _ _ hf').elim
      · exact h
  · rename_i hop
    split at h
    · rename_i f args ts hop'
      exact (hop _ _ _ hop').elim
    · split
      · rename_i x H' hx
        rw [hx] at h
        exact hk _ _ h
      · rename_i hx
        rw [hx] at h
        exact h

/-! ### any order -/
def AStep (S : Sys) (fr : Nat) (ops : Array Oper) (o : Oper) (e : Env) (H : Heap) (K : Env → Heap → Prop) : Prop := match guardOf ops e o with
  | some true => AOp1 S fr o e H fun x H' => K (putE e o.dst x) H'
  | some false => K (putE e o.dst (.v undef)) H
  | none => False
theorem AStep_mono {S : Sys} {fr : Nat} {ops : Array Oper} {o : Oper} {e : Env} {H : Heap} {K K' : Env → Heap → Prop} (h : AStep S fr ops o e H K) (hk : ∀ e H, K e H → K' e H) : AStep S fr ops o e H K' := by
  unfold AStep at h ⊢
  split
  · rename_i hg; rw [hg] at h; exact AOp1_mono h fun _ _ => hk _ _
  · rename_i hg; rw [hg] at h; exact hk _ _ h
  · rename_i hg; rw [hg] at h; exact h
/-- whatever order is picked; W: what an operation may write -/
def AAny (S : Sys) (fr : Nat) (ops : Array Oper) (W : Nat → List Nat) (K : Env → Heap → Prop) : Nat → Array Bool → Env → Heap → Prop
  | 0, listed, e, H => Region.ready .any ops listed = [] ∧ K e H
  | n + 1, listed, e, H => (Region.ready .any ops listed = [] → K e H) ∧
    ∀ i ∈ Region.ready .any ops listed, ∀ o, ops[i]? = some o → AStep S fr ops o e H fun e' H' => (∀ d, d ∉ W i → H' d = H d) ∧ AAny S fr ops W K n (listed.setIfInBounds i true) e' H'
theorem AAny_mono {S : Sys} {fr : Nat} {ops : Array Oper} {W : Nat → List Nat} {K K' : Env → Heap → Prop} (hk : ∀ e H, K e H → K' e H) : ∀ {n : Nat} {listed : Array Bool} {e : Env} {H : Heap}, AAny S fr ops W K n listed e H → AAny S fr ops W K' n listed e H
  | 0, _, _, _, h => ⟨h.1, hk _ _ h.2⟩
  | n + 1, _, _, _, h => ⟨fun h0 => hk _ _ (h.1 h0), fun i hi o ho => AStep_mono (h.2 i hi o ho) fun _ _ h' => ⟨h'.1, AAny_mono hk h'.2⟩⟩

/-- The frame and the world are as told. -/
structure Sat (O : Origin) (e : Env) (H : Heap) (α : Nat → Option Nat) (w : World) (a : Act) (N : Nat) : Prop where
  base : Base O H α w
  env : EnvOk w (okA O w H α) H α e a
  size : a.tmps.size = N
  defs : a.defers = []

theorem EnvOk.put {ok : Nat → Prop} {e : Env} {a : Act} (h : EnvOk w ok H α e a) {d : Option Tmp} (hd : d.all (· < a.tmps.size) = true) {x : AV} {v : Value} (hc : Conc w ok H α x v) : EnvOk w ok H α (putE e d x) (a.put d v) := by
  cases d with
  | none => exact h
  | some d =>
    simp only [Option.all_some, decide_eq_true_eq] at hd
    intro i
    simp only [putE, Act.put]
    by_cases e' : i = d
    · subst e'
      simp [hd, hc]
    · rw [upd_ne _ _ _ e']
      have := h i
      rw [Array.getD_eq_getD_getElem?] at this ⊢
      rwa [Array.getElem?_setIfInBounds_ne (Ne.symm e')]

theorem EnvOk.later {ok ok' : Nat → Prop} {H' : Heap} {α' : Nat → Option Nat} {w' : World} {e : Env} {a : Act} (h : EnvOk w ok H α e a) (L : Later w ok H α w' ok' H' α') : EnvOk w' ok' H' α' e a := fun i => (h i).later L

theorem put_size (a : Act) (d : Option Tmp) (v : Value) : (a.put d v).tmps.size = a.tmps.size := by cases d <;> simp [Act.put]
theorem put_defs (a : Act) (d : Option Tmp) (v : Value) : (a.put d v).defers = a.defers := by cases d <;> rfl

theorem guardOf_ok {N : Nat} {ops : Array Oper} {e : Env} {a : Act} {o : Oper} {b : Bool} (h : Sat O e H α w a N) (hg : guardOf ops e o = some b) : Region.wanted o (yielded ops a.tmps) = b := by
  unfold guardOf at hg
  unfold Region.wanted
  cases hgd : o.guard with
  | none => rw [hgd] at hg; simp only [Option.some.injEq] at hg; exact hg
  | some p =>
    obtain ⟨j, want⟩ := p
    rw [hgd] at hg
    simp only at hg ⊢
    split at hg
    · rename_i d hd
      split at hg
      · rename_i b' hb
        injection hg with hg
        have h1 := h.env d
        rw [hb] at h1
        have h2 := h1.v_inv
        have h3 : a.tmps[d]? = some (.bool b') := by
          rw [Array.getD_eq_getD_getElem?] at h2
          cases h4 : a.tmps[d]? with
          | none => rw [h4] at h2; cases h2
          | some v => rw [h4] at h2; simp only [Option.getD_some] at h2; rw [h2]
        simp only [yielded, hd, Option.bind_some, h3]
        rw [← hg]
        cases b' <;> cases want <;> rfl
      · rename_i q hb
        injection hg with hg
        have h1 := h.env d
        rw [hb] at h1
        have h2 := h1.v_inv
        have h3 : ∀ b', a.tmps[d]? ≠ some (.bool b') := by
          intro b' h4
          rw [Array.getD_eq_getD_getElem?, h4] at h2
          cases h2
        simp only [yielded, hd, Option.bind_some]
        rw [← hg]
        first
          | (cases want <;> rfl)
          | (split
             · rename_i b' h4; exact (h3 b' h4).elim
             · cases want <;> rfl)
      · cases hg
    · cases hg

theorem AOps_ok (hO : OWf S O) {fr N : Nat} {ops : Array Oper} {Q : Exit → Act → World → Prop} : ∀ (l : List Oper) (e : Env) (H : Heap) (K : Env → Heap → Prop), AOps S fr ops l e H K → (∀ o ∈ l, o.dst.all (· < N) = true) →
    ∀ (α : Nat → Option Nat) (w : World) (a : Act), Sat O e H α w a N →
      (∀ e' H' α' w' a', Sat O e' H' α' w' a' N → LaterS O H α w H' α' w' → K e' H' → Q .normal a' w') → wpList S.P ops Q l a w
  | [], e, H, K, h, hd, α, w, a, hs, hq => hq e H α w a hs (Later.refl _ _ _ _) h
  | o :: rest, e, H, K, h, hd, α, w, a, hs, hq => by
    have hdo := hd o (by simp)
    have hdr : ∀ o ∈ rest, o.dst.all (· < N) = true := fun o ho => hd o (by simp [ho])
    unfold wpList
    simp only [AOps] at h
    split at h
    · rename_i hg
      rw [guardOf_ok hs hg, if_pos rfl]
      refine .inl ?_
      unfold AOp1 at h
      have go : ∀ x H', StepN S O H α w (execOp a.eval o) x H' → AOps S fr ops rest (putE e o.dst x) H' K → o.wp S.P a w (wpList S.P ops Q rest) Q := by
        rintro x H' ⟨v, w', α', hr, hB, hL, hc⟩ hk
        have hnext : wpList S.P ops Q rest (a.put o.dst v) w' :=
          AOps_ok hO rest (putE e o.dst x) H' K hk hdr α' w' (a.put o.dst v) ⟨hB, (hs.env.later hL).put (by rw [hs.size]; exact hdo) hc, by rw [put_size, hs.size], by rw [put_defs, hs.defs]⟩
            (fun e' H2 α2 w2 a2 h1 h2 h3 => hq e' H2 α2 w2 a2 h1 (hL.trans h2) h3)
        unfold Oper.wp
        rcases hr with hr | ⟨hr, rfl⟩
        · rw [hr]; exact hnext
        · rw [hr]; exact hnext
      split at h
      · rename_i f args ts hop
        split at h
        · rename_i g caps hf
          obtain ⟨hent, hcall⟩ := h
          have hcf := ev_ok hs.env f
          rw [hf] at hcf
          obtain ⟨cv, hfv, hcl, hcr⟩ := hcf.fn_inv
          obtain ⟨hal, har⟩ := evs_ok hs.env args
          have hvs : ConcL w (okA O w H α) H α (args.toList.map (ev e) ++ caps) (args.map a.eval ++ cv) := by
            refine ⟨by rw [List.length_append, Array.size_append, hal, hcl], fun j x v h1 h2 => ?_⟩
            by_cases hj : j < (args.toList.map (ev e)).length
            · rw [List.getElem?_append_left hj] at h1
              rw [Array.getElem?_append_left (by omega)] at h2
              exact har j x v h1 h2
            · rw [List.getElem?_append_right (by omega)] at h1
              rw [Array.getElem?_append_right (by omega), ← hal] at h2
              exact hcr _ x v h1 h2
          have hrun : (execOp a.eval o).run S.P w = .ok (.enter g (args.map a.eval ++ cv)) w := by
            simp only [execOp, hop, resolve, hfv, Deferred.ofValue, Sem.run_bind, Sem.run_pure, Result.andThen_ok, invoke, Array.empty_append]
            exact enters_run hent _ w
          unfold Oper.wp
          rw [hrun]
          refine (hcall O hO α w _ hs.base hvs).mono ?_
          rintro e2 w2 ⟨v, r, H', α', rfl, hB, hL, hc, hk⟩
          exact AOps_ok hO rest (putE e o.dst r) H' K hk hdr α' w2 (a.put o.dst v) ⟨hB, (hs.env.later hL).put (by rw [hs.size]; exact hdo) hc, by rw [put_size, hs.size], by rw [put_defs, hs.defs]⟩
            (fun e' H2 α2 w2 a2 h1 h2 h3 => hq e' H2 α2 w2 a2 h1 (hL.trans h2) h3)
        · exact h.elim
      · split at h
        · rename_i x H' hx
          exact go x H' (aop_ok hO hs.base hs.env hx) h
        · exact h.elim
    · rename_i hg
      rw [guardOf_ok hs hg, if_neg (by simp)]
      exact AOps_ok hO rest (putE e o.dst (.v undef)) H K h hdr α w (a.put o.dst undef) ⟨hs.base, hs.env.put (by rw [hs.size]; exact hdo) (.d _ _ (.v _)), by rw [put_size, hs.size], by rw [put_defs, hs.defs]⟩ hq
    · exact h.elim

theorem AStep_ok (hO : OWf S O) {fr N i : Nat} {ops : Array Oper} {Q : Exit → Act → World → Prop} {o : Oper} (hi : ops[i]? = some o) {e : Env} {H : Heap} {K : Env → Heap → Prop} (h : AStep S fr ops o e H K) (hdo : o.dst.all (· < N) = true)
    {α : Nat → Option Nat} {w : World} {a : Act} (hs : Sat O e H α w a N) {K' : Act → World → Prop} (hq : ∀ e' H' α' w' a', Sat O e' H' α' w' a' N → LaterS O H α w H' α' w' → K e' H' → K' a' w') : wpOp S.P ops Q i K' a w := by
  unfold wpOp
  simp only [hi]
  unfold AStep at h
  split at h
  · rename_i hg
    rw [guardOf_ok hs hg, if_pos rfl]
    refine .inl ?_
    unfold AOp1 at h
    have go : ∀ x H', StepN S O H α w (execOp a.eval o) x H' → K (putE e o.dst x) H' → o.wp S.P a w K' Q := by
      rintro x H' ⟨v, w', α', hr, hB, hL, hc⟩ hk
      have hnext : K' (a.put o.dst v) w' := hq _ _ α' w' _ ⟨hB, (hs.env.later hL).put (by rw [hs.size]; exact hdo) hc, by rw [put_size, hs.size], by rw [put_defs, hs.defs]⟩ hL hk
      unfold Oper.wp
      rcases hr with hr | ⟨hr, rfl⟩
      · rw [hr]; exact hnext
      · rw [hr]; exact hnext
    split at h
    · rename_i f args ts hop
      split at h
      · rename_i g caps hf
        obtain ⟨hent, hcall⟩ := h
        have hcf := ev_ok hs.env f
        rw [hf] at hcf
        obtain ⟨cv, hfv, hcl, hcr⟩ := hcf.fn_inv
        obtain ⟨hal, har⟩ := evs_ok hs.env args
        have hvs : ConcL w (okA O w H α) H α (args.toList.map (ev e) ++ caps) (args.map a.eval ++ cv) := by
          refine ⟨by rw [List.length_append, Array.size_append, hal, hcl], fun j x v h1 h2 => ?_⟩
          by_cases hj : j < (args.toList.map (ev e)).length
          · rw [List.getElem?_append_left hj] at h1
            rw [Array.getElem?_append_left (by omega)] at h2
            exact har j x v h1 h2
          · rw [List.getElem?_append_right (by omega)] at h1
            rw [Array.getElem?_append_right (by omega), ← hal] at h2
            exact hcr _ x v h1 h2
        have hrun : (execOp a.eval o).run S.P w = .ok (.enter g (args.map a.eval ++ cv)) w := by
          simp only [execOp, hop, resolve, hfv, Deferred.ofValue, Sem.run_bind, Sem.run_pure, Result.andThen_ok, invoke, Array.empty_append]
          exact enters_run hent _ w
        unfold Oper.wp
        rw [hrun]
        refine (hcall O hO α w _ hs.base hvs).mono ?_
        rintro e2 w2 ⟨v, r, H', α', rfl, hB, hL, hc, hk⟩
        exact hq _ _ α' w2 _ ⟨hB, (hs.env.later hL).put (by rw [hs.size]; exact hdo) hc, by rw [put_size, hs.size], by rw [put_defs, hs.defs]⟩ hL hk
      · exact h.elim
    · split at h
      · rename_i x H' hx
        exact go x H' (aop_ok hO hs.base hs.env hx) h
      · exact h.elim
  · rename_i hg
    rw [guardOf_ok hs hg, if_neg (by simp)]
    exact hq _ _ α w _ ⟨hs.base, hs.env.put (by rw [hs.size]; exact hdo) (.d _ _ (.v _)), by rw [put_size, hs.size], by rw [put_defs, hs.defs]⟩ (Later.refl _ _ _ _) h
  · exact h.elim

theorem AAny_ok (hO : OWf S O) {fr N : Nat} {ops : Array Oper} {W : Nat → List Nat} {Q : Exit → Act → World → Prop} {K : Env → Heap → Prop} (hd : ∀ (i : Nat) (o : Oper), ops[i]? = some o → o.dst.all (· < N) = true) :
    ∀ (n : Nat) (listed : Array Bool) (e : Env) (H : Heap), AAny S fr ops W K n listed e H → ∀ (α : Nat → Option Nat) (w : World) (a : Act), Sat O e H α w a N →
      (∀ e' H' α' w' a', Sat O e' H' α' w' a' N → LaterS O H α w H' α' w' → K e' H' → Q .normal a' w') → wpAny S.P .any ops Q n listed a w
  | 0, listed, e, H, h, α, w, a, hs, hq => ⟨h.1, hq e H α w a hs (Later.refl _ _ _ _) h.2⟩
  | n + 1, listed, e, H, h, α, w, a, hs, hq => by
    refine ⟨fun h0 => hq e H α w a hs (Later.refl _ _ _ _) (h.1 h0), fun i hi => ?_⟩
    obtain ⟨_, o, ho, _⟩ := mem_ready.1 hi
    exact AStep_ok hO ho (h.2 i hi o ho) (hd i o ho) hs fun e' H' α' w' a' h1 h2 h3 => AAny_ok hO hd n _ e' H' h3.2 α' w' a' h1 fun e2 H2 α2 w2 a2 k1 k2 k3 => hq e2 H2 α2 w2 a2 k1 (h2.trans k2) k3

/-! ### code -/
inductive AExit where
  | normal
  | exit (id : Nat)
  | ret

def ARounds (F : Env → Heap → (AExit → Env → Heap → Prop) → Prop) (Q : AExit → Env → Heap → Prop) : Nat → Env → Heap → Prop
  | 0, _, _ => False
  | n + 1, e, H => F e H fun x e' H' => match x with
    | .normal => ARounds F Q n e' H'
    | x => Q x e' H'

def AWp (S : Sys) (fr : Nat) : Code → Env → Heap → (AExit → Env → Heap → Prop) → Prop
  | .skip, e, H, Q => Q .normal e H
  | .region _ ops false, e, H, Q => AOps S fr ops ops.toList e H fun e' H' => Q .normal e' H'
  | .region _ ops true, e, H, Q => S.P.follows .mixedOrders = true ∧ ∃ W, AAny S fr ops W (fun e' H' => Q .normal e' H') ops.size (Array.replicate ops.size false) e H
  | .seq x y, e, H, Q => AWp S fr x e H fun z e' H' => match z with
    | .normal => AWp S fr y e' H' Q
    | z => Q z e' H'
  | .cond c x y, e, H, Q => match ev e c with
    | .v (.bool t) => if t then AWp S fr x e H Q else AWp S fr y e H Q
    | _ => False
  | .block id c, e, H, Q => AWp S fr c e H fun z e' H' => match z with
    | .exit i => if i = id then Q .normal e' H' else Q (.exit i) e' H'
    | z => Q z e' H'
  | .loop c, e, H, Q => ∃ n, ARounds (AWp S fr c) Q n e H
  | .exit id, e, H, Q => Q (.exit id) e H
  | .ret, e, H, Q => Q .ret e H
  | _, _, _, _ => False

def codeOk (N : Nat) : Code → Bool
  | .region _ ops _ => ops.all fun o => o.dst.all (· < N)
  | .seq x y | .cond _ x y => codeOk N x && codeOk N y
  | .block _ c | .loop c => codeOk N c
  | _ => true

def conv : AExit → Exit
  | .normal => .normal
  | .exit i => .exit i
  | .ret => .ret

theorem AWp_ok (hO : OWf S O) {fr N : Nat} : ∀ (c : Code) (e : Env) (H : Heap) (Q : AExit → Env → Heap → Prop), AWp S fr c e H Q → codeOk N c = true →
    ∀ (α : Nat → Option Nat) (w : World) (a : Act) (Q' : Exit → Act → World → Prop), Sat O e H α w a N →
      (∀ z e' H' α' w' a', Sat O e' H' α' w' a' N → LaterS O H α w H' α' w' → Q z e' H' → Q' (conv z) a' w') → c.wp S.P Q' a w := by
  intro c
  induction c with
  | skip =>
    intro e H Q h hc α w a Q' hs hq
    exact wp_skip (hq .normal e H α w a hs (Later.refl _ _ _ _) h)
  | region id ops draw =>
    intro e H Q h hc α w a Q' hs hq
    have hdst : ∀ (i : Nat) (o : Oper), ops[i]? = some o → o.dst.all (· < N) = true := fun i o ho => by
      simp only [codeOk, Array.all_eq_true_iff_forall_mem] at hc
      exact hc o (Array.mem_of_getElem? ho)
    cases draw with
    | true =>
      obtain ⟨hm, W, h⟩ := h
      obtain ⟨hB, hL⟩ := hs.base.drewN 1
      exact wp_region_any hm (AAny_ok hO hdst _ _ e H h α _ a ⟨hB, hs.env.later hL, hs.size, hs.defs⟩ fun e' H' α' w' a' h1 h2 h3 => hq .normal e' H' α' w' a' h1 (hL.trans h2) h3)
    | false =>
      refine wp_region_list (AOps_ok hO ops.toList e H _ h (fun o ho => ?_) α w a hs fun e' H' α' w' a' h1 h2 h3 => hq .normal e' H' α' w' a' h1 h2 h3)
      simp only [codeOk, Array.all_eq_true_iff_forall_mem] at hc
      exact hc o (by simpa using ho)
  | seq x y ihx ihy =>
    intro e H Q h hc α w a Q' hs hq
    simp only [codeOk, Bool.and_eq_true] at hc
    refine wp_seq (ihx e H _ h hc.1 α w a _ hs fun z e' H' α' w' a' h1 h2 h3 => ?_)
    cases z with
    | normal => exact ihy e' H' Q h3 hc.2 α' w' a' Q' h1 fun z e2 H2 α2 w2 a2 k1 k2 k3 => hq z e2 H2 α2 w2 a2 k1 (h2.trans k2) k3
    | exit i => exact hq _ e' H' α' w' a' h1 h2 h3
    | ret => exact hq _ e' H' α' w' a' h1 h2 h3
  | cond c x y ihx ihy =>
    intro e H Q h hc α w a Q' hs hq
    simp only [codeOk, Bool.and_eq_true] at hc
    simp only [AWp] at h
    split at h
    · rename_i t ht
      have h0 := ev_ok hs.env c
      rw [ht] at h0
      refine wp_cond (t := t) h0.v_inv ?_
      cases t
      · exact ihy e H Q h hc.2 α w a Q' hs hq
      · exact ihx e H Q h hc.1 α w a Q' hs hq
    · exact h.elim
  | block id c ih =>
    intro e H Q h hc α w a Q' hs hq
    refine wp_block (ih e H _ h hc α w a _ hs fun z e' H' α' w' a' h1 h2 h3 => ?_)
    cases z with
    | normal => exact hq _ e' H' α' w' a' h1 h2 h3
    | ret => exact hq _ e' H' α' w' a' h1 h2 h3
    | exit i =>
      simp only [conv, Exit.inBlock]
      simp only at h3
      split at h3
      · rename_i hi
        rw [if_pos hi]
        exact hq _ e' H' α' w' a' h1 h2 h3
      · rename_i hi
        rw [if_neg hi]
        exact hq _ e' H' α' w' a' h1 h2 h3
  | loop c ih =>
    intro e H Q h hc α w a Q' hs hq
    obtain ⟨n, hn⟩ := h
    refine wp_loop_rounds n ?_
    induction n generalizing e H α w a with
    | zero => exact hn.elim
    | succ n ihn =>
      rw [rounds_succ]
      refine ih e H _ hn hc α w a _ hs fun z e' H' α' w' a' h1 h2 h3 => ?_
      cases z with
      | normal => exact ihn e' H' α' w' a' h1 (fun z e2 H2 α2 w2 a2 k1 k2 k3 => hq z e2 H2 α2 w2 a2 k1 (h2.trans k2) k3) h3
      | exit i => exact hq _ e' H' α' w' a' h1 h2 h3
      | ret => exact hq _ e' H' α' w' a' h1 h2 h3
  | exit id =>
    intro e H Q h hc α w a Q' hs hq
    exact wp_exit (hq (.exit id) e H α w a hs (Later.refl _ _ _ _) h)
  | ret =>
    intro e H Q h hc α w a Q' hs hq
    exact wp_ret (hq .ret e H α w a hs (Later.refl _ _ _ _) h)
  | _ => intro e H Q h; exact h.elim
end
end Go.Abs
