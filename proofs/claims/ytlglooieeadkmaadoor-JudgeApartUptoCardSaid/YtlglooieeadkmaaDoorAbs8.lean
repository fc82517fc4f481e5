/- Contracts out of bodies; what is owned read as data; loops. No program text. -/
import Derived.Test.YtlglooieeadkmaaDoorAbs7
set_option linter.unusedVariables false
set_option linter.unusedSimpArgs false
namespace Go.Abs
open Go Go.RowKit

/-! ### more in the end -/
theorem AOps_mono {S : Sys} {fr : Nat} {ops : Array Oper} : ∀ {l : List Oper} {e : Env} {H : Heap} {K K' : Env → Heap → Prop}, AOps S fr ops l e H K → (∀ e H, K e H → K' e H) → AOps S fr ops l e H K'
  | [], e, H, K, K', h, hk => hk _ _ h
  | o :: rest, e, H, K, K', h, hk => by
    simp only [AOps] at h ⊢
    split
    · rename_i hg
      rw [hg] at h
      simp only at h
      unfold AOp1 at h ⊢
      split
      · rename_i f args ts hop
        rw [hop] at h
        simp only at h
        split
        · rename_i g caps hf
          rw [hf] at h
          exact h.mono fun r H' hr => AOps_mono hr hk
        · rename_i hf
          split at h
          · rename_i g caps hf'
            exact (hf _ _ hf').elim
          · exact h
      · rename_i hop
        split at h
        · rename_i f args ts hop'
          exact (hop _ _ _ hop').elim
        · split
          · rename_i x H' hx
            rw [hx] at h
            exact AOps_mono h hk
          · rename_i hx
            rw [hx] at h
            exact h
    · rename_i hg
      rw [hg] at h
      exact AOps_mono h hk
    · rename_i hg
      rw [hg] at h
      exact h

theorem ARounds_mono {F : Env → Heap → (AExit → Env → Heap → Prop) → Prop} (hF : ∀ e H Q Q', F e H Q → (∀ z e H, Q z e H → Q' z e H) → F e H Q') {Q Q' : AExit → Env → Heap → Prop} (hq : ∀ z e H, Q z e H → Q' z e H) : ∀ n e H, ARounds F Q n e H → ARounds F Q' n e H
  | 0, e, H, h => h
  | n + 1, e, H, h => hF e H _ _ h fun z e' H' hz => by
    cases z with
    | normal => exact ARounds_mono hF hq n e' H' hz
    | exit i => exact hq _ _ _ hz
    | ret => exact hq _ _ _ hz

theorem AWp_mono {S : Sys} {fr : Nat} : ∀ {c : Code} {e : Env} {H : Heap} {Q Q' : AExit → Env → Heap → Prop}, AWp S fr c e H Q → (∀ z e H, Q z e H → Q' z e H) → AWp S fr c e H Q' := by
  intro c
  induction c with
  | skip => intro e H Q Q' h hq; exact hq _ _ _ h
  | region id ops draw =>
    intro e H Q Q' h hq
    cases draw with
    | true =>
      obtain ⟨hm, W, h⟩ := h
      exact ⟨hm, W, AAny_mono (fun e H => hq _ _ _) h⟩
    | false => exact AOps_mono h fun e H => hq _ _ _
  | seq x y ihx ihy =>
    intro e H Q Q' h hq
    refine ihx h fun z e' H' hz => ?_
    cases z with
    | normal => exact ihy hz hq
    | exit i => exact hq _ _ _ hz
    | ret => exact hq _ _ _ hz
  | cond c x y ihx ihy =>
    intro e H Q Q' h hq
    simp only [AWp] at h ⊢
    split
    · rename_i t ht
      rw [ht] at h
      cases t
      · exact ihy h hq
      · exact ihx h hq
    · rename_i ht
      split at h
      · rename_i t ht'
        exact (ht _ ht').elim
      · exact h
  | block id c ih =>
    intro e H Q Q' h hq
    refine ih h fun z e' H' hz => ?_
    cases z with
    | normal => exact hq _ _ _ hz
    | ret => exact hq _ _ _ hz
    | exit i =>
      simp only at hz ⊢
      split
      · rename_i hi; rw [if_pos hi] at hz; exact hq _ _ _ hz
      · rename_i hi; rw [if_neg hi] at hz; exact hq _ _ _ hz
  | loop c ih =>
    intro e H Q Q' h hq
    obtain ⟨n, hn⟩ := h
    exact ⟨n, ARounds_mono (F := AWp S fr c) (fun e H Q Q' h hq => ih h hq) hq n e H hn⟩
  | exit id => intro e H Q Q' h hq; exact hq _ _ _ h
  | ret => intro e H Q Q' h hq; exact hq _ _ _ h
  | _ => intro e H Q Q' h; exact h.elim

/-- A loop: what holds at each round's head, with a number that falls. -/
theorem AWp_loop {S : Sys} {fr : Nat} {c : Code} {Q : AExit → Env → Heap → Prop} (I : Nat → Env → Heap → Prop)
    (hI : ∀ k e H, I k e H → AWp S fr c e H fun z e' H' => match z with
      | .normal => ∃ k', k' < k ∧ I k' e' H'
      | z => Q z e' H') : ∀ k e H, I k e H → AWp S fr (.loop c) e H Q := by
  intro k
  induction k using Nat.strongRecOn with
  | _ k ih =>
    intro e H h
    have hmono : ∀ n m e H, n ≤ m → ARounds (AWp S fr c) Q n e H → ARounds (AWp S fr c) Q m e H := by
      intro n
      induction n with
      | zero => intro m e H _ h; exact h.elim
      | succ n ihn =>
        intro m e H hm h
        obtain ⟨m, rfl⟩ : ∃ k, m = k + 1 := ⟨m - 1, by omega⟩
        refine AWp_mono h fun z e' H' hz => ?_
        cases z with
        | normal => exact ihn m e' H' (by omega) hz
        | exit i => exact hz
        | ret => exact hz
    -- every k' < k has a number of rounds; one number for all k' < k is found by well-founded bound
    have key : ∀ k' , k' < k → ∀ e H, I k' e H → ARounds (AWp S fr c) Q (k' + 1) e H := by
      intro k'
      induction k' using Nat.strongRecOn with
      | _ k' ih' =>
        intro hk' e H h'
        refine AWp_mono (hI k' e H h') fun z e2 H2 hz => ?_
        cases z with
        | normal =>
          obtain ⟨k2, hk2, h2⟩ := hz
          exact hmono (k2 + 1) k' e2 H2 (by omega) (ih' k2 hk2 (by omega) e2 H2 h2)
        | exit i => exact hz
        | ret => exact hz
    refine ⟨k + 1, AWp_mono (hI k e H h) fun z e2 H2 hz => ?_⟩
    cases z with
    | normal =>
      obtain ⟨k2, hk2, h2⟩ := hz
      exact hmono (k2 + 1) k e2 H2 (by omega) (key k2 hk2 e2 H2 h2)
    | exit i => exact hz
    | ret => exact hz

/-! ### results -/
def resL (P : Program) (e : Env) (H : Heap) : List ResultVar → Option (List AV)
  | [] => some []
  | .tmp t :: r => (resL P e H r).map (e t :: ·)
  | .cell a t :: r => (aLoad P H t (e a)).bind fun x => (resL P e H r).map (x :: ·)
def resA (P : Program) (fn : Func) (e : Env) (H : Heap) : Option AV := (resL P e H fn.results.toList).map fun l => match l with
  | [x] => x
  | l => .tuple l

section
variable {S : Sys} {O : Origin} {H : Heap} {α : Nat → Option Nat} {w : World}
theorem aLoad_run (hB : Base O H α w) {t : TypeId} {x y : AV} {v : Value} (h : Conc w (okA O w H α) H α x v) (he : aLoad S.P H t x = some y) :
    ∃ u, (do loadVar t (← asAddr v) : Sem Value).run S.P w = .ok u w ∧ Conc w (okA O w H α) H α y u := by
  unfold aLoad at he
  split at he
  · rename_i sz cs hl hb
    split at he
    · rename_i hsz
      injection he with he
      subst he
      obtain ⟨b, off, rfl, hc⟩ := behind_spec hB h hb
      obtain ⟨vs, h1, h2, h3⟩ := (hc.take sz).vals
      obtain ⟨r1, r2⟩ := lI_run hl w
      have hlen : (cs.take sz).length = sz := by rw [List.length_take]; omega
      have := run_loadCells_list (P := S.P) w ⟨b, off, none⟩ vs h2
      rw [h1, hlen] at this
      exact ⟨.agg vs.toArray, by simp [asAddr, loadVar, r1, r2, this], .agg _ _ (by simp [h1]) (fun j x v hx hv => h3 j x v hx (by simpa using hv))⟩
    · cases he
  · rename_i sz cs hl hb
    obtain ⟨b, off, rfl, hc⟩ := behind_spec hB h hb
    obtain ⟨r1, r2⟩ := lI_run hl w
    cases cs with
    | nil => cases he
    | cons c cs =>
      injection he with he
      subst he
      obtain ⟨v', h1, h2⟩ := hc 0 c rfl
      simp only [Nat.add_zero] at h1
      exact ⟨v', by simp [asAddr, loadVar, r1, h1], h2⟩
  · cases he

def resS (tmps : Array Value) (r : ResultVar) : Sem Value := match r with
  | .tmp t => pure (tmps.getD t undef)
  | .cell b t => do loadVar t (← asAddr (tmps.getD b undef))
theorem results_resS (fn : Func) (tmps : Array Value) : results fn tmps = (do
    let vs ← fn.results.mapM (resS tmps)
    pure (if h : vs.size = 1 then vs[0] else .tuple vs)) := by
  have : (fun r => resS tmps r) = resS tmps := rfl
  unfold results
  congr 1

theorem resL_run (hB : Base O H α w) {e : Env} {a : Act} (hE : EnvOk w (okA O w H α) H α e a) : ∀ (rs : List ResultVar) (xs : List AV), resL S.P e H rs = some xs →
    ∃ vs : List Value, (rs.mapM (resS a.tmps)).run S.P w = .ok vs w ∧ xs.length = vs.length ∧
      ∀ (j : Nat) (x : AV) (v : Value), xs[j]? = some x → vs[j]? = some v → Conc w (okA O w H α) H α x v
  | [], xs, h => by
    simp only [resL, Option.some.injEq] at h
    subst h
    exact ⟨[], rfl, rfl, fun j x v h => by simp at h⟩
  | .tmp t :: r, xs, h => by
    simp only [resL, Option.map_eq_some_iff] at h
    obtain ⟨l, h1, rfl⟩ := h
    obtain ⟨vs, g1, g2, g3⟩ := resL_run hB hE r l h1
    refine ⟨a.tmps.getD t undef :: vs, by simp only [List.mapM_cons, resS, Sem.run_bind, Sem.run_pure, Result.andThen_ok, g1], by simp [g2], fun j x v h2 h3 => ?_⟩
    cases j with
    | zero => simp only [List.getElem?_cons_zero, Option.some.injEq] at h2 h3; subst h2 h3; exact hE t
    | succ j => exact g3 j x v (by simpa using h2) (by simpa using h3)
  | .cell b t :: r, xs, h => by
    simp only [resL, Option.bind_eq_some_iff, Option.map_eq_some_iff] at h
    obtain ⟨y, hy, l, h1, rfl⟩ := h
    obtain ⟨vs, g1, g2, g3⟩ := resL_run hB hE r l h1
    obtain ⟨u, k1, k2⟩ := aLoad_run hB (hE b) hy
    simp only [Sem.run_bind] at k1
    refine ⟨u :: vs, by simp only [List.mapM_cons, resS, Sem.run_bind, k1, Sem.run_pure, Result.andThen_ok, g1], by simp [g2], fun j x v h2 h3 => ?_⟩
    cases j with
    | zero => simp only [List.getElem?_cons_zero, Option.some.injEq] at h2 h3; subst h2 h3; exact k2
    | succ j => exact g3 j x v (by simpa using h2) (by simpa using h3)

theorem resA_run (hB : Base O H α w) {e : Env} {a : Act} (hE : EnvOk w (okA O w H α) H α e a) {fn : Func} {x : AV} (h : resA S.P fn e H = some x) : ∃ v, (results fn a.tmps).run S.P w = .ok v w ∧ Conc w (okA O w H α) H α x v := by
  unfold resA at h
  obtain ⟨xs, h1, h2⟩ := Option.map_eq_some_iff.1 h
  obtain ⟨vs, g1, g2, g3⟩ := resL_run hB hE fn.results.toList xs h1
  have hm : (fn.results.mapM (resS a.tmps)).run S.P w = .ok vs.toArray w := by
    rw [← Array.toArray_toList (xs := fn.results), List.mapM_toArray]
    simp only [Sem.run_map, g1, Result.andThen_ok]
  split at h2
  · rename_i y
    subst h2
    match vs, g2 with
    | [v], _ =>
      refine ⟨v, ?_, g3 0 _ _ rfl rfl⟩
      rw [results_resS]
      simp only [Sem.run_bind, hm, Result.andThen_ok, Sem.run_pure]
      rfl
  · rename_i hne
    subst h2
    refine ⟨.tuple vs.toArray, ?_, .tuple _ _ (by simpa using g2) (fun j x v h3 h4 => g3 j x v h3 (by simpa using h4))⟩
    rw [results_resS]
    simp only [Sem.run_bind, hm, Result.andThen_ok, Sem.run_pure]
    rw [dif_neg]
    intro h1
    simp only [List.size_toArray] at h1
    match xs, hne with
    | [], _ => simp at g2; omega
    | [y], hne => exact hne y rfl
    | y :: z :: r, _ => simp at g2; omega

def argE (xs : List AV) : Env := fun i => xs.getD i .bot

/-- what a body has to come to -/
def Ends (P : Program) (fn : Func) (K : AV → Heap → Prop) (z : AExit) (e : Env) (H : Heap) : Prop :=
  match z with
  | .exit _ => False
  | _ => match resA P fn e H with
    | some r => K r H
    | none => False

theorem start_env {xs : List AV} {vs : Array Value} {ok : Nat → Prop} (h : ConcL w ok H α xs vs) (n : Nat) : EnvOk w ok H α (argE xs) { tmps := vs ++ Array.replicate n undef, defers := [] } := by
  intro i
  unfold argE
  by_cases hi : i < xs.length
  · rw [List.getD_eq_getElem?_getD, List.getElem?_eq_getElem hi]
    have hv : i < vs.size := by have := h.1; omega
    have h1 := h.2 i xs[i] vs[i] (List.getElem?_eq_getElem hi) (Array.getElem?_eq_getElem hv)
    simp only [Option.getD_some, Array.getD_eq_getD_getElem?]
    rw [Array.getElem?_append_left hv, Array.getElem?_eq_getElem hv]
    exact h1
  · rw [List.getD_eq_getElem?_getD, List.getElem?_eq_none (by omega)]
    exact .d _ _ (.bot _)

/-- A contract, whatever the objects are. -/
theorem ACall.body {P : Program} (hP : S.P = P) {g : Nat} {fn : Func} {c : Code} {xs : List AV} {K : AV → Heap → Prop} (fr : Nat) (hf : P.funcs[g]? = some fn) (hb : fn.body = some c) (hent : enters P g = true) (hok : codeOk fn.ntmps c = true) (hn : xs.length ≤ fn.ntmps)
    (h : AWp S fr c (argE xs) H (Ends P fn K)) : ACall S g xs H K := by
  subst hP
  refine ⟨hent, fun O hO α w vs hB hc => calls_of_wp hf hb ?_⟩
  have hs : Sat O (argE xs) H α w { tmps := vs ++ Array.replicate (fn.ntmps - vs.size) undef, defers := [] } fn.ntmps :=
    ⟨hB, start_env hc _, by have := hc.1; simp; omega, rfl⟩
  refine AWp_ok hO c _ H _ h hok α w _ _ hs fun z e' H' α' w' a' h1 h2 h3 => ?_
  have fin : (match resA S.P fn e' H' with | some r => K r H' | none => False) → a'.defers = [] ∧ ∃ v, (results fn a'.tmps).run S.P w' = .ok v w' ∧
      ∃ v' r H2 α2, Ending.returned v = .returned v' ∧ Base O H2 α2 w' ∧ LaterS O H α w H2 α2 w' ∧ Conc w' (okA O w' H2 α2) H2 α2 r v' ∧ K r H2 := by
    intro hk
    refine ⟨h1.defs, ?_⟩
    split at hk
    · rename_i r hr
      obtain ⟨v, g1, g2⟩ := resA_run h1.base h1.env hr
      exact ⟨v, g1, v, r, H', α', rfl, h1.base, h2, g2, hk⟩
    · exact hk.elim
  cases z with
  | normal => exact fin h3
  | ret => exact fin h3
  | exit i => exact h3.elim

/-! ### what is owned, read as data -/
/-- x, in the objects H of which those of ds are given up, reads as y. -/
def Fz (ds : Nat → Prop) (H : Heap) (x y : AV) : Prop :=
  ∀ (O : Origin) (α : Nat → Option Nat) (w : World) (v : Value) (ok' : Nat → Prop), Base O H α w → (∀ b, okA O w H α b → ok' b) → (∀ d b, ds d → (H d).live = true → α d = some b → ok' b) →
    Conc w (okA O w H α) H α x v → ConcD w ok' y v

theorem Fz.pure {ds : Nat → Prop} {x : AV} (h : Pure x) : Fz ds H x x := fun O α w v ok' hB h1 h2 hc => (hc.pure h).mono (fun _ _ => rfl) h1
theorem Fz.nil {ds : Nat → Prop} : Fz ds H (.v (.slice none 0 0)) (.ro []) := fun O α w v ok' hB h1 h2 hc => by
  rw [hc.v_inv]
  exact .ro0 _ _ (fun x hx => by cases hx)
theorem Fz.bot {ds : Nat → Prop} {x : AV} : Fz ds H x .bot := fun O α w v ok' hB h1 h2 hc => .bot _
theorem Fz.agg {ds : Nat → Prop} {xs ys : List AV} (hl : xs.length = ys.length) (h : ∀ (j : Nat) (x y : AV), xs[j]? = some x → ys[j]? = some y → Fz ds H x y) : Fz ds H (.agg xs) (.agg ys) := fun O α w v ok' hB h1 h2 hc => by
  obtain ⟨vs, rfl, g1, g2⟩ := hc.agg_inv
  refine .agg ys vs (by omega) fun j y v hy hv => ?_
  have hj : j < xs.length := by have := (List.getElem?_eq_some_iff.1 hy).1; omega
  exact h j xs[j] y (List.getElem?_eq_getElem hj) hy O α w v ok' hB h1 h2 (g2 j xs[j] v (List.getElem?_eq_getElem hj) hv)
theorem Fz.tuple {ds : Nat → Prop} {xs ys : List AV} (hl : xs.length = ys.length) (h : ∀ (j : Nat) (x y : AV), xs[j]? = some x → ys[j]? = some y → Fz ds H x y) : Fz ds H (.tuple xs) (.tuple ys) := fun O α w v ok' hB h1 h2 hc => by
  obtain ⟨vs, rfl, g1, g2⟩ := hc.tuple_inv
  refine .tuple ys vs (by omega) fun j y v hy hv => ?_
  have hj : j < xs.length := by have := (List.getElem?_eq_some_iff.1 hy).1; omega
  exact h j xs[j] y (List.getElem?_eq_getElem hj) hy O α w v ok' hB h1 h2 (g2 j xs[j] v (List.getElem?_eq_getElem hj) hv)
theorem Fz.iface {ds : Nat → Prop} {t : Nat} {x y : AV} (h : Fz ds H x y) : Fz ds H (.iface t x) (.iface t y) := fun O α w v ok' hB h1 h2 hc => by
  obtain ⟨u, rfl, g⟩ := hc.iface_inv
  exact .iface t y u (h O α w u ok' hB h1 h2 g)
theorem Fz.fn {ds : Nat → Prop} {f : Nat} {xs ys : List AV} (hl : xs.length = ys.length) (h : ∀ (j : Nat) (x y : AV), xs[j]? = some x → ys[j]? = some y → Fz ds H x y) : Fz ds H (.fn f xs) (.fn f ys) := fun O α w v ok' hB h1 h2 hc => by
  obtain ⟨vs, rfl, g1, g2⟩ := hc.fn_inv
  refine .fn f ys vs (by omega) fun j y v hy hv => ?_
  have hj : j < xs.length := by have := (List.getElem?_eq_some_iff.1 hy).1; omega
  exact h j xs[j] y (List.getElem?_eq_getElem hj) hy O α w v ok' hB h1 h2 (g2 j xs[j] v (List.getElem?_eq_getElem hj) hv)
theorem Fz.ptr {ds : Nat → Prop} {o ver off : Nat} {ys : List AV} (hcur : cur H o ver = true) (hd : ds o) (hl : ys.length ≤ ((H o).cs.drop off).length) (h : ∀ (j : Nat) (x y : AV), ((H o).cs.drop off)[j]? = some x → ys[j]? = some y → Fz ds H x y) :
    Fz ds H (.ptr o ver off) (.rd ys) := fun O α w v ok' hB h1 h2 hc => by
  obtain ⟨c1, c2⟩ := cur_iff.1 hcur
  obtain ⟨b, ha, rfl⟩ := hc.ptr_inv.2 c1.symm c2
  have hat := ((hB.obj o c2).cellsAt ha).drop off
  rw [Nat.zero_add] at hat
  refine .rd ys b off (fun j => (w.cell? ⟨b, off + j, none⟩).getD undef) (h2 o b hd c2 ha) (fun j y hy => ?_) (fun j y hy => ?_)
  all_goals
    have hj : j < ((H o).cs.drop off).length := by have := (List.getElem?_eq_some_iff.1 hy).1; omega
    obtain ⟨u, g1, g2⟩ := hat j _ (List.getElem?_eq_getElem hj)
    simp only [g1, Option.getD_some]
  exact h j _ y (List.getElem?_eq_getElem hj) hy O α w u ok' hB h1 h2 g2
theorem Fz.own {ds : Nat → Prop} {o ver off n sz : Nat} {l : List (List AV)} (hcur : cur H o ver = true) (hd : ds o) (hn : l.length = n) (hs : ∀ c ∈ l, c.length = sz) (hfit : off + n * sz ≤ (H o).cs.length)
    (h : ∀ (i j : Nat) (c : List AV) (x y : AV), l[i]? = some c → c[j]? = some y → (H o).cs[off + (i * sz + j)]? = some x → Fz ds H x y) : Fz ds H (.own o ver off n sz) (.ro l) := fun O α w v ok' hB h1 h2 hc => by
  obtain ⟨c1, c2⟩ := cur_iff.1 hcur
  have hov := hc.own_inv.2 c1.symm c2
  unfold OwnV at hov
  cases ha : α o with
  | none =>
    rw [ha] at hov
    obtain ⟨rfl, _, rfl⟩ := hov
    have : l = [] := List.eq_nil_of_length_eq_zero hn
    subst this
    exact .ro0 _ _ (fun x hx => by cases hx)
  | some b =>
    rw [ha] at hov
    obtain ⟨c, hnc, rfl, _⟩ := hov
    subst hn
    have hat := (hB.obj o c2).cellsAt ha
    refine .ro l b off c sz (fun i j => (w.cell? ⟨b, off + (i * sz + j), none⟩).getD undef) hnc (h2 o b hd c2 ha) hs (fun i cs j x hi hx => ?_) (fun i cs j x hi hx => ?_)
    all_goals
      have hil := (List.getElem?_eq_some_iff.1 hi).1
      have hjl : j < sz := by rw [← hs cs (List.mem_of_getElem? hi)]; exact (List.getElem?_eq_some_iff.1 hx).1
      have hlt : off + (i * sz + j) < (H o).cs.length := by
        have : (i + 1) * sz ≤ l.length * sz := Nat.mul_le_mul_right _ (by omega)
        rw [Nat.add_mul] at this
        omega
      obtain ⟨u, g1, g2⟩ := hat _ _ (List.getElem?_eq_getElem hlt)
      rw [Nat.zero_add] at g1
      simp only [g1, Option.getD_some]
    exact h i j cs _ x hi hx (List.getElem?_eq_getElem hlt) O α w u ok' hB h1 h2 g2

/-- a row that was filled, element by element -/
theorem Fz.row {ds : Nat → Prop} {β : Type} {o ver n sz : Nat} {l : List β} {f f' : β → List AV} (hcur : cur H o ver = true) (hd : ds o) (hcs : (H o).cs = l.flatMap f) (hn : n = l.length) (hs : ∀ x ∈ l, (f x).length = sz) (hs' : ∀ x ∈ l, (f' x).length = sz)
    (h : ∀ x ∈ l, ∀ (j : Nat) (y y' : AV), (f x)[j]? = some y → (f' x)[j]? = some y' → Fz ds H y y') : Fz ds H (.own o ver 0 n sz) (.ro (l.map f')) := by
  subst hn
  have hall : ∀ c ∈ l.map f, c.length = sz := fun c hc => by obtain ⟨x, hx, rfl⟩ := List.mem_map.1 hc; exact hs x hx
  have hflat : (H o).cs = (l.map f).flatten := by rw [hcs, List.flatMap]
  refine Fz.own hcur hd (by simp) (fun c hc => by obtain ⟨x, hx, rfl⟩ := List.mem_map.1 hc; exact hs' x hx) (by rw [hflat, flatten_len sz _ hall]; simp) fun i j c x y hi hy hx => ?_
  simp only [List.getElem?_map, Option.map_eq_some_iff] at hi
  obtain ⟨z, hz, rfl⟩ := hi
  have hzm := List.mem_of_getElem? hz
  have hj : j < sz := by rw [← hs' z hzm]; exact (List.getElem?_eq_some_iff.1 hy).1
  rw [hflat, Nat.zero_add, flatten_get sz (by omega) _ hall] at hx
  have e1 : (i * sz + j) / sz = i := by rw [Nat.mul_comm, Nat.mul_add_div (by omega), Nat.div_eq_of_lt hj, Nat.add_zero]
  have e2 : (i * sz + j) % sz = j := by rw [Nat.mul_comm, Nat.mul_add_mod, Nat.mod_eq_of_lt hj]
  rw [e1, e2] at hx
  simp only [List.getElem?_map, hz, Option.map_some, Option.bind_some] at hx
  exact h z hzm j x y hx hy

/-! ### pure contracts -/
theorem APure.body {P : Program} (hP : S.P = P) {g : Nat} {fn : Func} {c : Code} {xs : List AV} {r : AV} (hf : P.funcs[g]? = some fn) (hb : fn.body = some c) (hent : enters P g = true) (hok : codeOk fn.ntmps c = true) (hn : xs.length ≤ fn.ntmps)
    (h : AWp S 0 c (argE xs) H0 (Ends P fn fun r0 H' => Fz (fun _ => True) H' r0 r)) : APure S g xs r := by
  subst hP
  refine ⟨hent, fun w ok vs hG hgt hok' hc => ?_⟩
  have hO : OWf S ⟨w, ok, fun _ => False⟩ := ⟨hG, hgt, fun b h => h.elim, fun b h => ⟨hok' b h, fun h => h⟩⟩
  have hB : Base ⟨w, ok, fun _ => False⟩ H0 (fun _ => none) w := ⟨rfl, rfl, rfl, Nat.le_refl _, (fun _ _ _ => rfl), (fun d h => by cases h), (fun d d' b h => by cases h), (fun d b h => by cases h)⟩
  have := (ACall.body (H := H0) (xs := xs) rfl 0 hf hb hent hok hn h).2 _ hO (fun _ => none) w vs hB ⟨hc.1, fun j x v h1 h2 => .d _ _ ((hc.2 j x v h1 h2).mono (fun _ _ => rfl) fun b hb => ⟨.inl hb, (fun d h => by cases h)⟩)⟩
  refine this.mono ?_
  rintro e w' ⟨v, r0, H', α', rfl, hB', hL, hc', hfz⟩
  refine ⟨v, rfl, ⟨hB'.os, hB'.tape, hB'.output, hB'.size, fun b hb => hB'.block b hb fun h => h⟩, ?_⟩
  refine hfz _ α' w' v _ hB' (fun b hb => hb.1) (fun d b _ hl ha => .inr ⟨?_, hB'.lt hl ha⟩) hc'
  rcases hB'.new d b hl ha with h | h
  · exact h
  · exact h.elim

/-- results in which nothing lies in memory -/
inductive Flat : AV → Prop
  | v (x : Value) : Flat (.v x)
  | agg (cs : List AV) (h : ∀ x ∈ cs, Flat x) : Flat (.agg cs)
  | tuple (cs : List AV) (h : ∀ x ∈ cs, Flat x) : Flat (.tuple cs)
  | iface (t : Nat) (x : AV) (h : Flat x) : Flat (.iface t x)
theorem Flat.conc {w w' : World} {ok ok' : Nat → Prop} {x : AV} {v : Value} (hf : Flat x) (h : ConcD w ok x v) : ConcD w' ok' x v := by
  induction h with
  | v x => exact .v x
  | agg cs vs hl hr ih => cases hf with | agg _ hf => exact .agg cs vs hl fun j x v h1 h2 => ih j x v h1 h2 (hf x (List.mem_of_getElem? h1))
  | tuple cs vs hl hr ih => cases hf with | tuple _ hf => exact .tuple cs vs hl fun j x v h1 h2 => ih j x v h1 h2 (hf x (List.mem_of_getElem? h1))
  | iface t x v h ih => cases hf with | iface _ _ hf => exact .iface t x v (ih hf)
  | _ => cases hf
@[simp] theorem flat_v (x : Value) : Flat (.v x) ↔ True := ⟨fun _ => trivial, fun _ => .v x⟩
@[simp] theorem flat_agg (l : List AV) : Flat (.agg l) ↔ ∀ x ∈ l, Flat x := ⟨fun h => by cases h with | agg _ h => exact h, .agg l⟩
@[simp] theorem flat_tuple (l : List AV) : Flat (.tuple l) ↔ ∀ x ∈ l, Flat x := ⟨fun h => by cases h with | tuple _ h => exact h, .tuple l⟩
@[simp] theorem flat_iface (t : Nat) (x : AV) : Flat (.iface t x) ↔ Flat x := ⟨fun h => by cases h with | iface _ _ h => exact h, .iface t x⟩

def FzL (ds : Nat → Prop) (H : Heap) (xs ys : List AV) : Prop := xs.length = ys.length ∧ ∀ (j : Nat) (x y : AV), xs[j]? = some x → ys[j]? = some y → Fz ds H x y
theorem FzL.nil {ds : Nat → Prop} : FzL ds H [] [] := ⟨rfl, fun j x y h => by simp at h⟩
theorem FzL.cons {ds : Nat → Prop} {x y : AV} {xs ys : List AV} (h : Fz ds H x y) (hr : FzL ds H xs ys) : FzL ds H (x :: xs) (y :: ys) := by
  refine ⟨by simp [hr.1], fun j a b h1 h2 => ?_⟩
  cases j with
  | zero => simp only [List.getElem?_cons_zero, Option.some.injEq] at h1 h2; subst h1 h2; exact h
  | succ j => exact hr.2 j a b (by simpa using h1) (by simpa using h2)

/-- A pure call that only looks at what is owned. -/
theorem ACall.view {g : Nat} {xs ys : List AV} {r : AV} {K : AV → Heap → Prop} (h : APure S g ys r) (hv : FzL (fun _ => True) H xs ys) (hr : Flat r) (hk : K r H) : ACall S g xs H K := by
  refine ⟨h.1, fun O hO α w vs hB hc => ?_⟩
  refine (h.2 w (fun b => b < w.heap.size) vs (hB.glob hO) (hB.gtle hO) (fun b hb => hb) ⟨by rw [← hv.1]; exact hc.1, fun j y v h1 h2 => ?_⟩).mono ?_
  · have hj : j < xs.length := by rw [hv.1]; exact (List.getElem?_eq_some_iff.1 h1).1
    exact hv.2 j xs[j] y (List.getElem?_eq_getElem hj) h1 O α w v _ hB (fun b hb => okA_lt hO hB.size hb) (fun d b _ hl ha => hB.lt hl ha) (hc.2 j xs[j] v (List.getElem?_eq_getElem hj) h2)
  · rintro e w' ⟨v, rfl, hb, hr'⟩
    obtain ⟨hB', hL⟩ := hB.below hO hb
    exact ⟨v, r, H, α, rfl, hB', hL, .d _ _ (hr.conc hr'), hk⟩
end
end Go.Abs
