/- Regions in any order, in continuation form: operations that only read first, then one by one. No program text. -/
import Derived.Test.YtlglooieeadkmaaDoorCps1
set_option linter.unusedVariables false
set_option linter.unusedSimpArgs false
namespace Go.Abs
open Go Go.RowKit

/-- a call that only computes -/
def cP (S : Sys) (f : AV) (xs : List AV) (k : AV → Prop) : Prop := match f with
  | .fn g caps => ∃ r, APure S g (xs ++ caps) r ∧ (∀ x ∈ xs ++ caps, Pure x) ∧ k r
  | _ => False
/-- operations that write nothing; those that do not even look at objects -/
def still (ck : Nat → Bool) : Op → Bool
  | .move _ | .assign _ | .pick .. | .build .. | .load .. | .binOp .. | .unOp .. | .convert .. | .makeInterface .. | .makeFunc .. | .slice .. | .fieldAddr .. | .field .. | .indexAddr .. | .index .. | .extract .. | .nilCheck .. => true
  | .call { callee := .builtin b, .. } => match b with
    | .len | .max | .min => true
    | _ => false
  | .call { callee := .value (.func f), .. } => ck f
  | _ => false
def blind (ck : Nat → Bool) : Op → Bool
  | .move _ | .assign _ | .pick .. | .binOp .. | .unOp .. | .convert .. | .makeInterface .. | .makeFunc .. | .field .. | .index .. | .extract .. => true
  | .call { callee := .builtin b, .. } => match b with
    | .max | .min => true
    | _ => false
  | .call { callee := .value (.func f), .. } => ck f
  | _ => false
def fresh : Op → Bool
  | .alloc _ | .box .. | .buildSlice .. | .makeSlice .. => true
  | _ => false
def opQ (S : Sys) (d : Nat) (o : Oper) (e : Env) (H : Heap) (k : AV → Heap → Prop) : Prop := match o.op with
  | .call { callee := .value f, args, argTypes := _ } => cP S (ev e f) (args.toList.map (ev e)) fun x => k x H
  | .convert s t _ => match byI S.P s t with
    | true => False
    | false => opW S d o e H k
  | _ => opW S d o e H k

/-- an operation does not look at the objects of a list -/
def rootOf : AV → Option Nat
  | .ptr o _ _ => some o
  | .own o _ _ _ _ => some o
  | _ => none
def offB (ban : List Nat) (x : AV) : Bool := match rootOf x with
  | some o => !ban.contains o
  | none => true
def lookV (e : Env) : Op → AV
  | .load _ x => ev e x
  | .fieldAddr _ x _ => ev e x
  | .indexAddr _ x _ => ev e x
  | .nilCheck x => ev e x
  | .slice _ x _ _ _ => ev e x
  | .call { callee := .builtin .len, args, .. } => match args.toList with
    | [x] => ev e x
    | _ => .bot
  | _ => .bot
def looker : Op → Bool
  | .load _ _ | .fieldAddr .. | .indexAddr .. | .nilCheck _ | .slice .. => true
  | .call { callee := .builtin .len, .. } => true
  | _ => false

section
variable {S : Sys} {d : Nat} {o : Oper} {e : Env} {H : Heap} {k : AV → Heap → Prop} {ck : Nat → Bool}
theorem pK_iff {r : Option AV} {k : AV → Prop} : pK r k ↔ ∃ x, r = some x ∧ k x := ⟨pK_some, fun ⟨x, h, hk⟩ => by rw [h]; exact hk⟩
theorem cP_ok {f : AV} {xs : List AV} {k : AV → Prop} (h : cP S f xs k) : ∃ x, k x ∧ ∀ (H2 : Heap) (k2 : AV → Heap → Prop), k2 x H2 → cK S f xs H2 k2 := by
  unfold cP at h
  split at h
  · rename_i g caps
    obtain ⟨r, h1, h2, h3⟩ := h
    exact ⟨r, h3, fun H2 k2 hk => ACall.pure h1 h2 hk⟩
  · exact h.elim
/-- what such an operation makes hangs on what it looks at alone -/
theorem opQ_same (hs : still ck o.op = true) (h : opQ S d o e H k) : ∃ x, k x H ∧ ∀ k2 : AV → Heap → Prop, k2 x H → opW S d o e H k2 := by
  obtain ⟨dst, op, ty, pos, after, guard⟩ := o
  have fin : ∀ {r : Option AV} {k : AV → Heap → Prop}, pK r (fun x => k x H) → ∃ x, k x H ∧ ∀ k2 : AV → Heap → Prop, k2 x H → pK r (fun x => k2 x H) := fun h => by
    obtain ⟨x, hx, hk⟩ := pK_some h
    exact ⟨x, hk, fun k2 h2 => pK_iff.2 ⟨x, hx, h2⟩⟩
  unfold opQ at h
  cases op with
  | move x => exact ⟨_, h, fun k2 h2 => h2⟩
  | assign x => exact ⟨_, h, fun k2 h2 => h2⟩
  | pick c a b => exact fin h
  | build t ps => exact fin h
  | load t x => exact fin h
  | binOp b t x y t' => exact fin h
  | unOp b t x => exact fin h
  | convert s t x =>
    simp only at h
    split at h
    · exact h.elim
    · exact fin h
  | makeInterface t x => exact fin h
  | makeFunc fn first caps =>
    unfold opW at h ⊢
    simp only at h ⊢
    split at h
    · split at h
      · rename_i hf
        exact ⟨_, h, fun k2 h2 => by simp only [hf, if_true]; exact h2⟩
      · exact h.elim
    · exact h.elim
  | slice t x lo hi mx =>
    cases mx with
    | none => exact fin h
    | some m => exact h.elim
  | fieldAddr t x f => exact fin h
  | field t x f => exact fin h
  | indexAddr t x i => exact fin h
  | index t x i => exact fin h
  | extract x i => exact fin h
  | nilCheck x => exact fin h
  | call c =>
    obtain ⟨callee, args, ts⟩ := c
    cases callee with
    | value f =>
      obtain ⟨x, h1, h2⟩ := cP_ok h
      exact ⟨x, h1, fun k2 hk => h2 H k2 hk⟩
    | invoke r m => exact h.elim
    | builtin b =>
      unfold opW at h ⊢
      simp only at h ⊢
      split at h
      · exact fin h
      · simp [still] at hs
      · exact fin h
      · exact fin h
      · exact h.elim
  | _ => simp [still] at hs

theorem opQ_blind (hs : blind ck o.op = true) (h : opQ S d o e H k) : ∃ x, k x H ∧ ∀ (H2 : Heap) (k2 : AV → Heap → Prop), k2 x H2 → opW S d o e H2 k2 := by
  obtain ⟨dst, op, ty, pos, after, guard⟩ := o
  have fin : ∀ {r : Option AV} {k : AV → Heap → Prop}, pK r (fun x => k x H) → ∃ x, k x H ∧ ∀ (H2 : Heap) (k2 : AV → Heap → Prop), k2 x H2 → pK r (fun x => k2 x H2) := fun h => by
    obtain ⟨x, hx, hk⟩ := pK_some h
    exact ⟨x, hk, fun H2 k2 h2 => pK_iff.2 ⟨x, hx, h2⟩⟩
  unfold opQ at h
  cases op with
  | move x => exact ⟨_, h, fun H2 k2 h2 => h2⟩
  | assign x => exact ⟨_, h, fun H2 k2 h2 => h2⟩
  | pick c a b => exact fin h
  | binOp b t x y t' => exact fin h
  | unOp b t x => exact fin h
  | convert s t x =>
    simp only at h
    split at h
    · exact h.elim
    · rename_i hI
      have e1 : ∀ (H : Heap) (k : AV → Heap → Prop), opW S d { dst := dst, op := Op.convert s t x, type := ty, pos := pos, after := after, guard := guard } e H k = pK (cv (cvI S.P s t) (ev e x)) fun x => k x H := fun H k => by
        show pK (cvX (byI S.P s t) _ H _) _ = _
        rw [hI]
        rfl
      rw [e1] at h
      obtain ⟨x, h1, h2⟩ := fin h
      exact ⟨x, h1, fun H2 k2 hk => by rw [e1]; exact h2 H2 k2 hk⟩
  | makeInterface t x => exact fin h
  | makeFunc fn first caps =>
    unfold opW at h ⊢
    simp only at h ⊢
    split at h
    · split at h
      · rename_i hf
        exact ⟨_, h, fun H2 k2 h2 => by simp only [hf, if_true]; exact h2⟩
      · exact h.elim
    · exact h.elim
  | field t x f => exact fin h
  | index t x i => exact fin h
  | extract x i => exact fin h
  | call c =>
    obtain ⟨callee, args, ts⟩ := c
    cases callee with
    | value f =>
      obtain ⟨x, h1, h2⟩ := cP_ok h
      exact ⟨x, h1, fun H2 k2 hk => h2 H2 k2 hk⟩
    | invoke r m => exact h.elim
    | builtin b =>
      unfold opW at h ⊢
      simp only at h ⊢
      split at h
      · simp [blind] at hs
      · simp [blind] at hs
      · exact fin h
      · exact fin h
      · exact h.elim
  | _ => simp [blind] at hs

theorem cur_congr {H H2 : Heap} {o v : Nat} (h : H2 o = H o) : cur H2 o v = cur H o v := by simp only [cur, h]
section
variable {H H2 : Heap} {x : AV}
theorem cur_root (h : ∀ o, rootOf x = some o → H2 o = H o) {o v : Nat} (hx : rootOf x = some o) : cur H2 o v = cur H o v := cur_congr (h o hx)
theorem behind_congr (h : ∀ o, rootOf x = some o → H2 o = H o) : behind H2 x = behind H x := by
  cases x with
  | ptr o v off => simp only [behind]; rw [cur_root h rfl, h o rfl]
  | _ => rfl
theorem fa_congr (h : ∀ o, rootOf x = some o → H2 o = H o) (i : Option Nat) : fa i H2 x = fa i H x := by
  cases x with
  | ptr o v off => cases i <;> simp only [fa]; rw [cur_root h rfl]
  | rd cs => cases i <;> rfl
  | _ => cases i <;> rfl
theorem ia_congr (h : ∀ o, rootOf x = some o → H2 o = H o) (i : IaI) (n : AV) : ia i H2 x n = ia i H x n := by
  unfold ia
  split
  · split
    · cases x with
      | own o v off m z => simp only [aIdxSl]; rw [cur_root h rfl]
      | _ => rfl
    · cases x with
      | ptr o v off => simp only [aIdxAr]; rw [cur_root h rfl]
      | _ => rfl
    · rfl
  · rfl
theorem nc_congr (h : ∀ o, rootOf x = some o → H2 o = H o) : nc H2 x = nc H x := by
  cases x with
  | ptr o v off => simp only [nc]; rw [cur_root h rfl]
  | _ => rfl
theorem ln_congr (h : ∀ o, rootOf x = some o → H2 o = H o) (i : LnI) : ln i H2 x = ln i H x := by
  cases x with
  | own o v off m z => cases i <;> simp only [ln]; rw [cur_root h rfl]
  | v u => unfold ln; split <;> first | rfl | contradiction
  | _ => cases i <;> rfl
theorem sl_congr (h : ∀ o, rootOf x = some o → H2 o = H o) (i : SlI) (lo hi : Option AV) : sl i H2 x lo hi = sl i H x lo hi := by
  cases x with
  | own o v off m z => cases i <;> simp only [sl, cutA]; rw [cur_root h rfl, h o rfl]
  | ro l => cases i <;> simp only [sl, cutA]
  | v u => cases u <;> cases i <;> rfl
  | ptr o v off => cases i <;> simp only [sl, cutP]; rw [cur_root h rfl, h o rfl]
  | _ => cases i <;> rfl
end
theorem opQ_look (hs : looker o.op = true) (h : opQ S d o e H k) : ∃ x, k x H ∧ ∀ (H2 : Heap), (∀ c, rootOf (lookV e o.op) = some c → H2 c = H c) → ∀ (k2 : AV → Heap → Prop), k2 x H2 → opW S d o e H2 k2 := by
  obtain ⟨dst, op, ty, pos, after, guard⟩ := o
  have fin : ∀ (f : Heap → Option AV) {v : AV} {k : AV → Heap → Prop}, (∀ H2 : Heap, (∀ c, rootOf v = some c → H2 c = H c) → f H2 = f H) → pK (f H) (fun x => k x H) →
      ∃ x, k x H ∧ ∀ H2 : Heap, (∀ c, rootOf v = some c → H2 c = H c) → ∀ k2 : AV → Heap → Prop, k2 x H2 → pK (f H2) (fun x => k2 x H2) := fun f v k hf h => by
    obtain ⟨x, hx, hk⟩ := pK_some h
    exact ⟨x, hk, fun H2 hH k2 h2 => by rw [hf H2 hH]; exact pK_iff.2 ⟨x, hx, h2⟩⟩
  unfold opQ at h
  cases op with
  | load t x =>
    exact fin (fun H => ld (lI S.P t) H (ev e x)) (v := ev e x) (fun H2 hH => by unfold ld; rw [behind_congr hH]) h
  | fieldAddr t x f => exact fin (fun H => fa ((fI S.P t f).map fun p : Nat × TypeId × Nat => p.1) H (ev e x)) (v := ev e x) (fun H2 hH => fa_congr hH _) h
  | indexAddr t x i => exact fin (fun H => ia (iaI S.P t) H (ev e x) (ev e i)) (v := ev e x) (fun H2 hH => ia_congr hH _ _) h
  | nilCheck x => exact fin (fun H => nc H (ev e x)) (v := ev e x) (fun H2 hH => nc_congr hH) h
  | slice t x lo hi mx =>
    cases mx with
    | none => exact fin (fun H => sl (slI S.P t) H (ev e x) (lo.map (ev e)) (hi.map (ev e))) (v := ev e x) (fun H2 hH => sl_congr hH _ _ _) h
    | some m => exact h.elim
  | call c =>
    obtain ⟨callee, args, ts⟩ := c
    cases callee with
    | value f => simp [looker] at hs
    | invoke r m => exact h.elim
    | builtin b =>
      cases b <;> try (simp [looker] at hs; done)
      unfold opW at h ⊢
      simp only at h ⊢
      split at h
      · rename_i x t ts' _ h1 h2
        exact fin (fun H => ln (lnI S.P t) H (ev e x)) (v := lookV e (.call ⟨.builtin .len, args, ts⟩)) (fun H2 hH => ln_congr (by simp only [lookV, h1] at hH; exact hH) _) h
      all_goals first | exact h.elim | contradiction
  | _ => simp [looker] at hs

theorem opW_fresh (hs : fresh o.op = true) (h : opW S d o e H k) : opW S d o e H fun x H' => (∀ c, c ≠ d → H' c = H c) ∧ k x H' := by
  obtain ⟨dst, op, ty, pos, after, guard⟩ := o
  have fin : ∀ {r : Option (AV × Heap)} {k : AV → Heap → Prop}, (∀ x H', r = some (x, H') → ∀ c, c ≠ d → H' c = H c) → hK r k → hK r fun x H' => (∀ c, c ≠ d → H' c = H c) ∧ k x H' := fun hr h => by
    obtain ⟨x, H', hx, hk⟩ := hK_some h
    rw [hx]
    exact ⟨hr _ _ hx, hk⟩
  unfold opW at h ⊢
  cases op with
  | alloc t =>
    refine fin (fun x H' hx c hc => ?_) h
    unfold al at hx
    obtain ⟨z, _, h2⟩ := Option.map_eq_some_iff.1 hx
    simp only [Prod.mk.injEq] at h2
    rw [← h2.2, upd_ne _ _ _ hc]
  | box t x =>
    refine fin (fun x H' hx c hc => ?_) h
    unfold aBox at hx
    obtain ⟨z, _, h2⟩ := Option.map_eq_some_iff.1 hx
    simp only [Prod.mk.injEq] at h2
    rw [← h2.2, upd_ne _ _ _ hc]
  | buildSlice t n ps =>
    refine fin (fun x H' hx c hc => ?_) h
    unfold bS at hx
    obtain ⟨p, _, h1⟩ := Option.bind_eq_some_iff.1 hx
    obtain ⟨z, _, h2⟩ := Option.map_eq_some_iff.1 h1
    simp only [Prod.mk.injEq] at h2
    rw [← h2.2, upd_ne _ _ _ hc]
  | makeSlice t l c =>
    refine fin (fun x H' hx c hc => ?_) h
    unfold mk at hx
    split at hx
    · obtain ⟨⟨e1, s1, z1⟩, _, h1⟩ := Option.bind_eq_some_iff.1 hx
      simp only at h1
      split at h1
      · simp only [Option.some.injEq, Prod.mk.injEq] at h1
        rw [← h1.2, upd_ne _ _ _ hc]
      · cases h1
    · cases hx
  | _ => simp [fresh] at hs
end

/-! ### any order -/
def AAnyP (S : Sys) (fr : Nat) (ops : Array Oper) (W : Nat → Nat → Prop) (K : Env → Heap → Prop) : Nat → Array Bool → Env → Heap → Prop
  | 0, listed, e, H => Region.ready .any ops listed = [] ∧ K e H
  | n + 1, listed, e, H => (Region.ready .any ops listed = [] → K e H) ∧
    ∀ i ∈ Region.ready .any ops listed, ∀ o, ops[i]? = some o → AStep S fr ops o e H fun e' H' => (∀ d, ¬ W i d → H' d = H d) ∧ AAnyP S fr ops W K n (listed.setIfInBounds i true) e' H'

theorem AAnyP_ok {S : Sys} {O : Origin} (hO : OWf S O) {fr N : Nat} {ops : Array Oper} {W : Nat → Nat → Prop} {Q : Exit → Act → World → Prop} {K : Env → Heap → Prop} (hd : ∀ (i : Nat) (o : Oper), ops[i]? = some o → o.dst.all (· < N) = true) :
    ∀ (n : Nat) (listed : Array Bool) (e : Env) (H : Heap), AAnyP S fr ops W K n listed e H → ∀ (α : Nat → Option Nat) (w : World) (a : Act), Sat O e H α w a N →
      (∀ e' H' α' w' a', Sat O e' H' α' w' a' N → LaterS O H α w H' α' w' → K e' H' → Q .normal a' w') → wpAny S.P .any ops Q n listed a w
  | 0, listed, e, H, h, α, w, a, hs, hq => ⟨h.1, hq e H α w a hs (Later.refl _ _ _ _) h.2⟩
  | n + 1, listed, e, H, h, α, w, a, hs, hq => by
    refine ⟨fun h0 => hq e H α w a hs (Later.refl _ _ _ _) (h.1 h0), fun i hi => ?_⟩
    obtain ⟨_, o, ho, _⟩ := mem_ready.1 hi
    exact AStep_ok hO ho (h.2 i hi o ho) (hd i o ho) hs fun e' H' α' w' a' h1 h2 h3 => AAnyP_ok hO hd n _ e' H' h3.2 α' w' a' h1 fun e2 H2 α2 w2 a2 k1 k2 k3 => hq e2 H2 α2 w2 a2 k1 (h2.trans k2) k3

section
variable {S : Sys} {fr : Nat} {ops : Array Oper} {W : Nat → Nat → Prop} {K : Env → Heap → Prop}
/-- dependents of an operation: none of them is ready ahead of it -/
def depOk (ops : Array Oper) (i : Nat) (D : Nat → Bool) : Bool :=
  (List.range ops.size).all fun j => !D j || (match ops[j]? with
    | some oj => oj.after.any fun e => Region.binds .any e && (e.on == i || D e.on)
    | none => true)
theorem AAnyP_first {i : Nat} {oi : Oper} {x : AV} {R : Nat → Prop} {D : Nat → Bool} (hi : ops[i]? = some oi) (hD : depOk ops i D = true) (hDi : D i = false) :
    ∀ (fuel : Nat) (listed : Array Bool) (e : Env) (H : Heap), listed.size = ops.size →
      (∀ j, D j = true → listed.getD j true = false) →
      (∀ (j : Nat) (oj : Oper), ops[j]? = some oj → j ≠ i → listed.getD j true = false → D j = false → oi.apart ops oj = true ∧ ∀ d, R d → ¬ W j d) →
      i ∈ Region.ready .any ops listed →
      (∀ (H2 : Heap), (∀ d, R d → H2 d = H d) → ∀ (k : Env → Heap → Prop), k (putE e oi.dst x) H2 → AStep S fr ops oi e H2 k) →
      AAnyP S fr ops W K fuel (listed.setIfInBounds i true) (putE e oi.dst x) H → AAnyP S fr ops W K (fuel + 1) listed e H := by
  intro fuel
  induction fuel with
  | zero =>
    intro listed e H hsz hDl hfree hr hy hA
    refine ⟨fun h => (by rw [h] at hr; cases hr), fun j hj o ho => ?_⟩
    by_cases hji : j = i
    · subst hji
      rw [hi] at ho; injection ho with ho; subst ho
      exact hy H (fun _ _ => rfl) _ ⟨fun _ _ => rfl, hA⟩
    · have := ready_mono hj hji
      rw [hA.1] at this
      cases this
  | succ fuel ih =>
    intro listed e H hsz hDl hfree hr hy hA
    refine ⟨fun h => (by rw [h] at hr; cases hr), fun j hj o ho => ?_⟩
    by_cases hji : j = i
    · subst hji
      rw [hi] at ho; injection ho with ho; subst ho
      exact hy H (fun _ _ => rfl) _ ⟨fun _ _ => rfl, hA⟩
    · have h1 := hA.2 j (ready_mono hj hji) o ho
      obtain ⟨hjun, oj, hoj, hall⟩ := mem_ready.1 hj
      rw [hoj] at ho; injection ho with ho; subst ho
      have hjD : D j = false := by
        cases hDj : D j with
        | false => rfl
        | true =>
          exfalso
          simp only [depOk, List.all_eq_true, List.mem_range] at hD
          have h2 := hD j (Array.getElem?_eq_some_iff.1 hoj).1
          simp only [hDj, Bool.not_true, Bool.false_or, hoj] at h2
          obtain ⟨ed, he, hb⟩ := Array.any_eq_true'.1 h2
          simp only [Bool.and_eq_true, Bool.or_eq_true, beq_iff_eq] at hb
          have h3 := hall ed he hb.1
          rcases hb.2 with hb2 | hb2
          · have h0 := (mem_ready.1 hr).1
            rw [hb2] at h3
            rcases Nat.lt_or_ge i listed.size with h' | h'
            · simp [h'] at h0 h3; rw [h0] at h3; cases h3
            · simp [Array.getElem?_eq_none h'] at h3
          · have h0 := hDl _ hb2
            rcases Nat.lt_or_ge ed.on listed.size with h' | h'
            · simp [h'] at h0 h3; rw [h0] at h3; cases h3
            · simp [Array.getElem?_eq_none h'] at h3
      obtain ⟨hap, hRW⟩ := hfree j oj hoj hji hjun hjD
      obtain ⟨p1, p2, p3⟩ := Oper.apart_spec hap
      refine AStep_congr (e := putE e oi.dst x) (fun t ht => putE_ne fun hd => p1 t hd ht) h1 fun y H' hk => ?_
      obtain ⟨hw, hA'⟩ := hk
      refine ⟨hw, ih _ _ _ (by simpa using hsz) (fun k hk => ?_) (fun k ok hk hki hun hkD => ?_) (ready_mono hr (Ne.symm hji)) ?_ ?_⟩
      · have hjk : j ≠ k := fun h => by subst h; rw [hjD] at hk; cases hk
        rw [getD_set_ne true hjk]
        exact hDl k hk
      · refine hfree k ok hk hki ?_ hkD
        by_cases hjk : j = k
        · subst hjk; exact hjun
        · rw [getD_set_ne true hjk] at hun; exact hun
      · intro H2 hR k2 hk2
        refine AStep_congr (e := e) (fun t ht => (putE_ne fun hd => p3 t hd ht).symm) (hy H2 (fun d hd => ?_) (fun e' H' => k2 (putE e' oj.dst y) H') ?_) fun z H3 hz => ?_
        · rw [hR d hd, hw d (hRW d hd)]
        · rw [putE_comm fun t ht => p2 t ht]; exact hk2
        · rw [putE_comm fun t ht => p2 t ht] at hz; exact hz
      · rw [Array.setIfInBounds_comm _ _ hji, putE_comm fun t ht he => p2 t he ht]
        exact hA'

theorem AAnyP_only {i : Nat} {oi : Oper} {n : Nat} {listed : Array Bool} {e : Env} {H : Heap} (hi : ops[i]? = some oi) (hr : Region.ready .any ops listed = [i])
    (h : AStep S fr ops oi e H fun e' H' => (∀ d, ¬ W i d → H' d = H d) ∧ AAnyP S fr ops W K n (listed.setIfInBounds i true) e' H') : AAnyP S fr ops W K (n + 1) listed e H := by
  refine ⟨fun h0 => (by rw [h0] at hr; cases hr), fun j hj o ho => ?_⟩
  rw [hr, List.mem_singleton] at hj
  subst hj
  rw [hi] at ho
  injection ho with ho
  subst ho
  exact h
theorem AAnyP_pair {i j : Nat} {oi oj : Oper} {n : Nat} {listed : Array Bool} {e : Env} {H : Heap} (hi : ops[i]? = some oi) (hj : ops[j]? = some oj) (hr : Region.ready .any ops listed = [i, j])
    (h : AStep S fr ops oi e H fun e' H' => (∀ d, ¬ W i d → H' d = H d) ∧ AAnyP S fr ops W K n (listed.setIfInBounds i true) e' H')
    (h' : AStep S fr ops oj e H fun e' H' => (∀ d, ¬ W j d → H' d = H d) ∧ AAnyP S fr ops W K n (listed.setIfInBounds j true) e' H') : AAnyP S fr ops W K (n + 1) listed e H := by
  refine ⟨fun h0 => (by rw [h0] at hr; cases hr), fun k hk o ho => ?_⟩
  rw [hr] at hk
  simp only [List.mem_cons, List.not_mem_nil, or_false] at hk
  rcases hk with rfl | rfl
  · rw [hi] at ho
    injection ho with ho
    subst ho
    exact h
  · rw [hj] at ho
    injection ho with ho
    subst ho
    exact h'
theorem AAnyP_done {n : Nat} {listed : Array Bool} {e : Env} {H : Heap} (hr : Region.ready .any ops listed = []) (h : K e H) : AAnyP S fr ops W K n listed e H := by
  cases n with
  | zero => exact ⟨hr, h⟩
  | succ n => exact ⟨fun _ => h, fun j hj => by rw [hr] at hj; cases hj⟩
end
end Go.Abs
