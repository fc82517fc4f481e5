/- Regions in any order: an operation taken first. No program text. -/
import Derived.Test.YtlglooieeadkmaaDoorAbs9
set_option linter.unusedVariables false
set_option linter.unusedSimpArgs false
namespace Go.Abs
open Go Go.RowKit

theorem bs_lit (l : List UInt8) : bs ⟨l.toArray⟩ = l := rfl
theorem ev_congr {e e' : Env} {x : Operand} (h : ∀ t, x = .tmp t → e t = e' t) : ev e x = ev e' x := by
  cases x with
  | tmp t => exact h t rfl
  | _ => rfl
theorem evs_congr {e e' : Env} {xs : List Operand} (h : ∀ t, .tmp t ∈ xs → e t = e' t) : xs.map (ev e) = xs.map (ev e') :=
  List.map_congr_left fun x hx => ev_congr fun t ht => h t (ht ▸ hx)
theorem evp_congr {e e' : Env} {xs : List (Nat × Operand)} (h : ∀ t, .tmp t ∈ xs.map (·.2) → e t = e' t) : xs.map (fun p => (p.1, ev e p.2)) = xs.map (fun p => (p.1, ev e' p.2)) :=
  List.map_congr_left fun x hx => by rw [ev_congr fun t ht => h t (ht ▸ List.mem_map_of_mem hx)]
theorem evo_congr {e e' : Env} {x : Option Operand} (h : ∀ t, x = some (.tmp t) → e t = e' t) : x.map (ev e) = x.map (ev e') := by
  cases x with
  | none => rfl
  | some x => simp only [Option.map_some]; rw [ev_congr fun t ht => h t (by rw [ht])]

/-- what an operation does hangs on what it looks at -/
theorem aop_congr {P : Program} {o : Oper} {d : Nat} {e e' : Env} {H : Heap} (h : ∀ t, .tmp t ∈ o.op.operands → e t = e' t) : aop P o d e H = aop P o d e' H := by
  unfold aop
  generalize o.op = op at h
  cases op with
  | move x => simp only; rw [ev_congr fun t ht => h t (by simp [Op.operands, ht])]
  | assign x => simp only; rw [ev_congr fun t ht => h t (by simp [Op.operands, ht])]
  | pick c x y => simp only; rw [ev_congr (x := c) fun t ht => h t (by simp [Op.operands, ht]), ev_congr (x := x) fun t ht => h t (by simp [Op.operands, ht]), ev_congr (x := y) fun t ht => h t (by simp [Op.operands, ht])]
  | box t x => simp only; rw [ev_congr fun t ht => h t (by simp [Op.operands, ht])]
  | build t ps => simp only; rw [evp_congr fun t ht => h t (by simpa [Op.operands] using ht)]
  | buildSlice t n ps => simp only; rw [evp_congr fun t ht => h t (by simpa [Op.operands] using ht)]
  | load t x => simp only; rw [ev_congr fun t ht => h t (by simp [Op.operands, ht])]
  | store t x y => simp only; rw [ev_congr (x := x) fun t ht => h t (by simp [Op.operands, ht]), ev_congr (x := y) fun t ht => h t (by simp [Op.operands, ht])]
  | binOp b t x y t' => simp only; rw [ev_congr (x := x) fun t ht => h t (by simp [Op.operands, ht]), ev_congr (x := y) fun t ht => h t (by simp [Op.operands, ht])]
  | unOp b t x => simp only; rw [ev_congr fun t ht => h t (by simp [Op.operands, ht])]
  | convert s t x => simp only; rw [ev_congr fun t ht => h t (by simp [Op.operands, ht])]
  | makeInterface t x => simp only; rw [ev_congr fun t ht => h t (by simp [Op.operands, ht])]
  | makeFunc fn first caps => simp only; rw [evs_congr fun t ht => h t (by simp [Op.operands]; exact .inr (by simpa using ht))]
  | makeSlice t l c => simp only; rw [ev_congr (x := l) fun t ht => h t (by simp [Op.operands, ht]), ev_congr (x := c) fun t ht => h t (by simp [Op.operands, ht])]
  | slice t x lo hi mx =>
    simp only
    rw [ev_congr (x := x) fun t ht => h t (by simp [Op.operands, ht]), evo_congr (x := lo) fun t ht => h t (by simp [Op.operands, ht]), evo_congr (x := hi) fun t ht => h t (by simp [Op.operands, ht]), evo_congr (x := mx) fun t ht => h t (by simp [Op.operands, ht])]
  | fieldAddr t x f => simp only; rw [ev_congr fun t ht => h t (by simp [Op.operands, ht])]
  | field t x f => simp only; rw [ev_congr fun t ht => h t (by simp [Op.operands, ht])]
  | indexAddr t x i => simp only; rw [ev_congr (x := x) fun t ht => h t (by simp [Op.operands, ht]), ev_congr (x := i) fun t ht => h t (by simp [Op.operands, ht])]
  | index t x i => simp only; rw [ev_congr (x := x) fun t ht => h t (by simp [Op.operands, ht]), ev_congr (x := i) fun t ht => h t (by simp [Op.operands, ht])]
  | extract x i => simp only; rw [ev_congr fun t ht => h t (by simp [Op.operands, ht])]
  | nilCheck x => simp only; rw [ev_congr fun t ht => h t (by simp [Op.operands, ht])]
  | call c =>
    obtain ⟨callee, args, ts⟩ := c
    cases callee with
    | builtin b => simp only; rw [evs_congr fun t ht => h t (by simp [Op.operands, Call.operands]; simpa using ht)]
    | _ => rfl
  | _ => rfl

theorem looks_operands {ops : Array Oper} {o : Oper} {t : Tmp} (h : .tmp t ∈ o.op.operands) : t ∈ o.looksAt ops := by
  unfold Oper.looksAt
  refine List.mem_append_left _ (List.mem_filterMap.2 ⟨.tmp t, by simpa using h, rfl⟩)
theorem looks_guard {ops : Array Oper} {o : Oper} {j : Nat} {want : Bool} {t : Tmp} (hg : o.guard = some (j, want)) (hd : (ops[j]?).bind (·.dst) = some t) : t ∈ o.looksAt ops := by
  unfold Oper.looksAt
  refine List.mem_append_right _ ?_
  rw [hg]
  simp only [hd, Option.toList_some, List.mem_singleton]

theorem guardOf_congr {ops : Array Oper} {o : Oper} {e e' : Env} (h : ∀ t ∈ o.looksAt ops, e t = e' t) : guardOf ops e o = guardOf ops e' o := by
  unfold guardOf
  split
  · rfl
  · rename_i j want hg
    split
    · rename_i d hd
      rw [h d (looks_guard hg hd)]
    · rfl

theorem AOp1_congr {S : Sys} {fr : Nat} {ops : Array Oper} {o : Oper} {e e' : Env} {H : Heap} {K : AV → Heap → Prop} (h : ∀ t ∈ o.looksAt ops, e t = e' t) (hk : AOp1 S fr o e H K) : AOp1 S fr o e' H K := by
  have h' : ∀ t, .tmp t ∈ o.op.operands → e t = e' t := fun t ht => h t (looks_operands ht)
  unfold AOp1 at hk ⊢
  split
  · rename_i f args ts hop
    rw [hop] at hk h'
    simp only at hk
    have h1 : ev e' f = ev e f := ev_congr fun t ht => (h' t (by simp [Op.operands, Call.operands, ht])).symm
    have h2 : args.toList.map (ev e') = args.toList.map (ev e) := evs_congr fun t ht => (h' t (by simp [Op.operands, Call.operands]; exact .inr (by simpa using ht))).symm
    rw [h1, h2]
    exact hk
  · rename_i hop
    rw [← aop_congr h']
    split at hk
    · rename_i f args ts hop'
      exact (hop _ _ _ hop').elim
    · exact hk

theorem AStep_congr {S : Sys} {fr : Nat} {ops : Array Oper} {o : Oper} {e e' : Env} {H : Heap} {K K' : Env → Heap → Prop} (h : ∀ t ∈ o.looksAt ops, e t = e' t) (hs : AStep S fr ops o e H K) (hk : ∀ x H', K (putE e o.dst x) H' → K' (putE e' o.dst x) H') : AStep S fr ops o e' H K' := by
  unfold AStep at hs ⊢
  rw [← guardOf_congr h]
  split
  · rename_i hg
    rw [hg] at hs
    exact AOp1_mono (AOp1_congr h hs) fun x H' => hk x H'
  · rename_i hg
    rw [hg] at hs
    exact hk _ _ hs
  · rename_i hg
    rw [hg] at hs
    exact hs

theorem putE_ne {e : Env} {d : Option Tmp} {x : AV} {t : Tmp} (h : d ≠ some t) : putE e d x t = e t := by
  cases d with
  | none => rfl
  | some d => simp only [putE, upd]; rw [if_neg]; intro he; exact h (by rw [he])
theorem putE_comm {e : Env} {d d' : Option Tmp} {x y : AV} (h : ∀ t, d = some t → d' ≠ some t) : putE (putE e d x) d' y = putE (putE e d' y) d x := by
  cases d with
  | none => rfl
  | some d =>
    cases d' with
    | none => rfl
    | some d' =>
      have hne : d ≠ d' := fun he => h d rfl (by rw [he])
      funext t
      simp only [putE, upd]
      by_cases h1 : t = d'
      · rw [if_pos h1, if_neg (fun h2 => hne (h2.symm.trans h1)), if_pos h1]
      · rw [if_neg h1, if_neg h1]

/-- an operation that comes to x, and leaves the objects, wherever those of R are as they are here -/
def Quiet (S : Sys) (fr : Nat) (ops : Array Oper) (R : List Nat) (o : Oper) (e : Env) (H : Heap) (x : AV) : Prop :=
  ∀ (H2 : Heap) (K : Env → Heap → Prop), (∀ d ∈ R, H2 d = H d) → K (putE e o.dst x) H2 → AStep S fr ops o e H2 K

def apartW (ops : Array Oper) (W : Nat → List Nat) (R : List Nat) (listed : Array Bool) (i : Nat) : Bool :=
  (List.range ops.size).all fun j => j == i || listed.getD j true || (match ops[j]? with
    | some oj => oj.after.any (fun e => Region.binds .any e && e.on == i) || (W j).all fun d => !R.contains d
    | none => true)
theorem apartW_spec {ops : Array Oper} {W : Nat → List Nat} {R : List Nat} {listed : Array Bool} {i : Nat} (h : apartW ops W R listed i = true) (j : Nat) (oj : Oper)
    (hj : ops[j]? = some oj) (hne : j ≠ i) (hun : listed.getD j true = false) (hno : ∀ e ∈ oj.after, Region.binds .any e = true → e.on ≠ i) : ∀ d ∈ R, d ∉ W j := by
  simp only [apartW, List.all_eq_true, List.mem_range] at h
  have h1 := h j (Array.getElem?_eq_some_iff.1 hj).1
  simp only [hj, Bool.or_eq_true, beq_iff_eq, hne, false_or, hun, Bool.false_eq_true] at h1
  rcases h1 with h1 | h1
  · obtain ⟨e, he, hb⟩ := Array.any_eq_true'.1 h1
    simp only [Bool.and_eq_true, beq_iff_eq] at hb
    exact (hno e he hb.1 hb.2).elim
  · intro d hd hw
    have := List.all_eq_true.1 h1 d hw
    simp [hd] at this

section
variable {S : Sys} {fr : Nat} {ops : Array Oper} {W : Nat → List Nat} {K : Env → Heap → Prop}
theorem AAny_first {i : Nat} {oi : Oper} {x : AV} {R : List Nat} (hi : ops[i]? = some oi) :
    ∀ (fuel : Nat) (listed : Array Bool) (e : Env) (H : Heap),
      (∀ (j : Nat) (oj : Oper), ops[j]? = some oj → j ≠ i → listed.getD j true = false → (∀ e ∈ oj.after, Region.binds .any e = true → e.on ≠ i) → oi.apart ops oj = true ∧ ∀ d ∈ R, d ∉ W j) →
      i ∈ Region.ready .any ops listed → Quiet S fr ops R oi e H x →
      AAny S fr ops W K fuel (listed.setIfInBounds i true) (putE e oi.dst x) H → AAny S fr ops W K (fuel + 1) listed e H := by
  intro fuel
  induction fuel with
  | zero =>
    intro listed e H _ hr hy hA
    refine ⟨fun h => (by rw [h] at hr; cases hr), fun j hj o ho => ?_⟩
    by_cases hji : j = i
    · subst hji
      rw [hi] at ho; injection ho with ho; subst ho
      exact hy H _ (fun _ _ => rfl) ⟨fun _ _ => rfl, hA⟩
    · have := ready_mono hj hji
      rw [hA.1] at this
      cases this
  | succ fuel ih =>
    intro listed e H hfree hr hy hA
    refine ⟨fun h => (by rw [h] at hr; cases hr), fun j hj o ho => ?_⟩
    by_cases hji : j = i
    · subst hji
      rw [hi] at ho; injection ho with ho; subst ho
      exact hy H _ (fun _ _ => rfl) ⟨fun _ _ => rfl, hA⟩
    · have h1 := hA.2 j (ready_mono hj hji) o ho
      obtain ⟨hjun, oj, hoj, hall⟩ := mem_ready.1 hj
      rw [hoj] at ho; injection ho with ho; subst ho
      have hnot : ∀ e ∈ oj.after, Region.binds .any e = true → e.on ≠ i := fun e he hb heq => by
        have h1 := hall e he hb
        have h0 := (mem_ready.1 hr).1
        rw [heq] at h1
        rcases Nat.lt_or_ge i listed.size with h' | h'
        · simp [h'] at h0 h1; rw [h0] at h1; cases h1
        · simp [Array.getElem?_eq_none h'] at h1
      obtain ⟨hap, hRW⟩ := hfree j oj hoj hji hjun hnot
      obtain ⟨p1, p2, p3⟩ := Oper.apart_spec hap
      refine AStep_congr (e := putE e oi.dst x) (fun t ht => putE_ne fun hd => p1 t hd ht) h1 fun y H' hk => ?_
      obtain ⟨hw, hA'⟩ := hk
      refine ⟨hw, ih _ _ _ (fun k ok hk hki hun hno => ?_) (ready_mono hr (Ne.symm hji)) ?_ ?_⟩
      · refine hfree k ok hk hki ?_ hno
        by_cases hjk : j = k
        · subst hjk; exact hjun
        · rw [getD_set_ne true hjk] at hun; exact hun
      · intro H2 K2 hR hk2
        refine AStep_congr (e := e) (fun t ht => (putE_ne fun hd => p3 t hd ht).symm) (hy H2 (fun e' H' => K2 (putE e' oj.dst y) H') (fun d hd => ?_) ?_) fun z H3 hz => ?_
        · rw [hR d hd, hw d (hRW d hd)]
        · rw [putE_comm fun t ht => p2 t ht]; exact hk2
        · rw [putE_comm fun t ht => p2 t ht] at hz; exact hz
      · rw [Array.setIfInBounds_comm _ _ hji, putE_comm fun t ht he => p2 t he ht]
        exact hA'

/-- take number i first -/
theorem any_take (i : Nat) (R : List Nat) {oi : Oper} {x : AV} {n : Nat} {listed : Array Bool} {e : Env} {H : Heap} (hi : ops[i]? = some oi)
    (hc : (Region.free .any ops listed i && apartW ops W R listed i && (Region.ready .any ops listed).contains i) = true)
    (hy : ∀ H2 : Heap, (∀ d ∈ R, H2 d = H d) → ∀ K : Env → Heap → Prop, K (putE e oi.dst x) H2 → AOps S fr ops [oi] e H2 K)
    (h : AAny S fr ops W K n (listed.setIfInBounds i true) (putE e oi.dst x) H) : AAny S fr ops W K (n + 1) listed e H := by
  simp only [Bool.and_eq_true] at hc
  refine AAny_first hi n listed e H (fun j oj hj hne hun hno => ⟨Region.free_spec hi hc.1.1 j oj hj hne hun hno, apartW_spec hc.1.2 j oj hj hne hun hno⟩) (by simpa using hc.2) (fun H2 K2 hR hk => ?_) h
  have := hy H2 hR K2 hk
  unfold AOps at this
  unfold AStep
  exact this
/-- only number i may come up -/
theorem any_only (i : Nat) {oi : Oper} {n : Nat} {listed : Array Bool} {e : Env} {H : Heap} (hi : ops[i]? = some oi) (hr : (Region.ready .any ops listed == [i]) = true)
    (h : AOps S fr ops [oi] e H fun e' H' => (∀ d, d ∉ W i → H' d = H d) ∧ AAny S fr ops W K n (listed.setIfInBounds i true) e' H') : AAny S fr ops W K (n + 1) listed e H := by
  have hr' := eq_of_beq hr
  refine ⟨fun h0 => (by rw [h0] at hr'; cases hr'), fun j hj o ho => ?_⟩
  rw [hr', List.mem_singleton] at hj
  subst hj
  rw [hi] at ho
  injection ho with ho
  subst ho
  unfold AStep
  unfold AOps at h
  exact h
theorem any_done {n : Nat} {listed : Array Bool} {e : Env} {H : Heap} (hr : (Region.ready .any ops listed).isEmpty = true) (h : K e H) : AAny S fr ops W K n listed e H := by
  have hr' := List.isEmpty_iff.1 hr
  cases n with
  | zero => exact ⟨hr', h⟩
  | succ n => exact ⟨fun _ => h, fun j hj => by rw [hr'] at hj; cases hj⟩
end
section
variable {S : Sys} {fr : Nat} {e : Env} {H : Heap} {Q : AExit → Env → Heap → Prop} {ops : Array Oper}
theorem AWp_anyline (n : Nat) (W : Nat → List Nat) {id : Nat} {e1 : Env} {H1 : Heap} (hm : S.P.follows .mixedOrders = true) (hn : (ops.size == n) = true) (h : ∀ R : Env → Heap → Prop, R e1 H1 → AAny S fr ops W R n (Array.replicate n false) e H) (hq : Q .normal e1 H1) :
    AWp S fr (.region id ops true) e H Q := by
  have hn' := eq_of_beq hn
  subst hn'
  exact ⟨hm, W, h _ hq⟩
theorem AWp_any (n : Nat) (W : Nat → List Nat) {id : Nat} (M : Env → Heap → Prop) (hm : S.P.follows .mixedOrders = true) (hn : (ops.size == n) = true) (h : AAny S fr ops W M n (Array.replicate n false) e H) (hq : ∀ e1 H1, M e1 H1 → Q .normal e1 H1) :
    AWp S fr (.region id ops true) e H Q := by
  have hn' := eq_of_beq hn
  subst hn'
  exact ⟨hm, W, AAny_mono hq h⟩
end
end Go.Abs
