/- Regions in any order: in which order they are taken, and that it stands for all. No program text. -/
import Derived.Test.YtlglooieeadkmaaDoorCps2
set_option linter.unusedVariables false
set_option maxHeartbeats 2000000
set_option linter.unusedSimpArgs false
namespace Go.Abs
open Go Go.RowKit

inductive PStep where
  | z
  | q (i : Nat) (ban : List Nat) (r : PStep)
  | s (i : Nat) (r : PStep)
  | p (i : Nat) (ri : PStep) (j : Nat) (rj : PStep)
def depM (ops : Array Oper) (i : Nat) : Nat :=
  ops.toList.zipIdx.foldl (fun m (o, j) => if o.after.any (fun e => Region.binds .any e && (e.on == i || m.testBit e.on)) then m ||| 2 ^ j else m) 0
def dep (ops : Array Oper) (i : Nat) : Nat → Bool := fun j => decide (j < ops.size) && (depM ops i).testBit j && !(j == i)
def opAt (ops : Array Oper) (j : Nat) : Oper := (ops[j]?).getD ⟨none, .alloc 0, 0, "", #[], none⟩
def others (ops : Array Oper) (listed : Array Bool) (i : Nat) (D : Nat → Bool) : List Nat := (List.range ops.size).filter fun j => !(j == i) && !listed.getD j true && !D j
def canQ (ck : Nat → Bool) (ops : Array Oper) (listed : Array Bool) (i : Nat) (D : Nat → Bool) : Bool :=
  let o := opAt ops i
  still ck o.op && depOk ops i D && ((List.range ops.size).all fun j => !D j || !listed.getD j true) &&
  ((others ops listed i D).all fun j => o.apart ops (opAt ops j) && (blind ck o.op || still ck (opAt ops j).op || (looker o.op && fresh (opAt ops j).op)))
def bansOf (ck : Nat → Bool) (ops : Array Oper) (listed : Array Bool) (i : Nat) (D : Nat → Bool) : List Nat :=
  if blind ck (opAt ops i).op then [] else ((others ops listed i D).filter fun j => !still ck (opAt ops j).op).map fun j => (opAt ops j).dst.getD 0
def calm : Op → Bool
  | .load .. => true
  | _ => false
def tied (ck : Nat → Bool) (o : Op) : Bool := still ck o && !calm o
def plan (ck : Nat → Bool) (ops : Array Oper) : Nat → Array Bool → Option PStep
  | 0, listed => match Region.ready .any ops listed with
    | [] => some .z
    | _ => none
  | n + 1, listed => match Region.ready .any ops listed with
    | [] => some .z
    | i :: r => match (i :: r).find? fun i => canQ ck ops listed i (dep ops i) with
      | some i => (plan ck ops n (listed.setIfInBounds i true)).map (.q i (bansOf ck ops listed i (dep ops i)))
      | none => match r with
        | [] => if tied ck (opAt ops i).op then none else (plan ck ops n (listed.setIfInBounds i true)).map (.s i)
        | [j] => if tied ck (opAt ops i).op || tied ck (opAt ops j).op then none else
          match plan ck ops n (listed.setIfInBounds i true), plan ck ops n (listed.setIfInBounds j true) with
          | some x, some y => some (.p i x j y)
          | _, _ => none
        | _ => none

def gst (ops : Array Oper) (o : Oper) (e : Env) (H : Heap) (X : (AV → Heap → Prop) → Prop) (k : AV → Heap → Prop) : Prop := match o.guard with
  | none => X k
  | some (j, want) => grdK (gdst ops e j) want H X k
def banK (ban : List Nat) (v : AV) (X : Prop) : Prop := offB ban v = true ∧ X
def pairK (A B : Prop) : Prop := A ∧ B
def W3 (S : Sys) (fr : Nat) (ops : Array Oper) : PStep → Env → Heap → (Env → Heap → Prop) → Prop
  | .z, e, H, K => K e H
  | .q i [] r, e, H, K => gst ops (opAt ops i) e H (fun k => opQ S (fr + (opAt ops i).dst.getD 0) (opAt ops i) e H k) fun x H' => W3 S fr ops r (putE e (opAt ops i).dst x) H' K
  | .q i (b :: bs) r, e, H, K => banK ((b :: bs).map (fr + ·)) (lookV e (opAt ops i).op) (gst ops (opAt ops i) e H (fun k => opQ S (fr + (opAt ops i).dst.getD 0) (opAt ops i) e H k) fun x H' => W3 S fr ops r (putE e (opAt ops i).dst x) H' K)
  | .s i r, e, H, K => gst ops (opAt ops i) e H (fun k => opW S (fr + (opAt ops i).dst.getD 0) (opAt ops i) e H k) fun x H' => W3 S fr ops r (putE e (opAt ops i).dst x) H' K
  | .p i ri j rj, e, H, K => pairK
      (gst ops (opAt ops i) e H (fun k => opW S (fr + (opAt ops i).dst.getD 0) (opAt ops i) e H k) fun x H' => W3 S fr ops ri (putE e (opAt ops i).dst x) H' K)
      (gst ops (opAt ops j) e H (fun k => opW S (fr + (opAt ops j).dst.getD 0) (opAt ops j) e H k) fun x H' => W3 S fr ops rj (putE e (opAt ops j).dst x) H' K)
def drawW (S : Sys) (fr : Nat) (ck : Nat → Bool) (ops : Array Oper) (e : Env) (H : Heap) (K : Env → Heap → Prop) : Prop := match plan ck ops ops.size (Array.replicate ops.size false) with
  | some pl => W3 S fr ops pl e H K
  | none => False

def WOf (ck : Nat → Bool) (fr : Nat) (ops : Array Oper) (j d : Nat) : Prop :=
  still ck (opAt ops j).op = false ∧ (fresh (opAt ops j).op = true → d = fr + (opAt ops j).dst.getD 0)

section
variable {S : Sys} {fr : Nat} {ck : Nat → Bool} {ops : Array Oper} {K : Env → Heap → Prop}
theorem opAt_some {i : Nat} {o : Oper} (h : ops[i]? = some o) : opAt ops i = o := by simp [opAt, h]
theorem step_w {o : Oper} {e : Env} {H : Heap} {k : AV → Heap → Prop} {K' : Env → Heap → Prop} (h : gst ops o e H (fun k => opW S (fr + o.dst.getD 0) o e H k) k)
    (hk : ∀ x H', k x H' → K' (putE e o.dst x) H') : AStep S fr ops o e H K' := by
  unfold gst at h
  unfold AStep
  split at h
  · rename_i hg
    rw [show guardOf ops e o = some true by simp only [guardOf, hg]]
    exact AOp1_mono (opW_ok h) hk
  · rename_i j want hg
    rcases grdK_ok hg h with ⟨h1, h2⟩ | ⟨h1, h2⟩
    · rw [h1]; exact AOp1_mono (opW_ok h2) hk
    · rw [h1]; exact hk _ _ h2
theorem step_fresh {o : Oper} {e : Env} {H : Heap} {k : AV → Heap → Prop} (hs : fresh o.op = true) (h : gst ops o e H (fun k => opW S (fr + o.dst.getD 0) o e H k) k) :
    gst ops o e H (fun k => opW S (fr + o.dst.getD 0) o e H k) fun x H' => (∀ c, c ≠ fr + o.dst.getD 0 → H' c = H c) ∧ k x H' := by
  unfold gst at h ⊢
  split
  · rename_i hg; rw [hg] at h; exact opW_fresh hs h
  · rename_i j want hg
    rw [hg] at h
    simp only at h
    unfold grdK at h ⊢
    split
    · rename_i b hb
      rw [hb] at h
      simp only at h
      split
      · rename_i hc; rw [if_pos hc] at h; exact opW_fresh hs h
      · rename_i hc; rw [if_neg hc] at h; exact ⟨fun _ _ => rfl, h⟩
    · rename_i hb; rw [hb] at h; exact ⟨fun _ _ => rfl, h⟩
    · rename_i h1 h2
      split at h
      · rename_i hb; exact (h1 _ hb).elim
      · rename_i hb; exact (h2 _ hb).elim
      · exact h
theorem step_frame {i : Nat} {o : Oper} {e : Env} {H : Heap} {k : AV → Heap → Prop} {K' : Env → Heap → Prop} (hi : opAt ops i = o) (hns : still ck o.op = false) (h : gst ops o e H (fun k => opW S (fr + o.dst.getD 0) o e H k) k)
    (hk : ∀ x H', k x H' → K' (putE e o.dst x) H') : AStep S fr ops o e H fun e' H' => (∀ d, ¬ WOf ck fr ops i d → H' d = H d) ∧ K' e' H' := by
  cases hf : fresh o.op with
  | true =>
    refine step_w (step_fresh hf h) fun x H' hx => ⟨fun d hd => hx.1 d fun he => hd ⟨by rw [hi]; exact hns, fun _ => by rw [hi]; exact he⟩, hk _ _ hx.2⟩
  | false =>
    refine step_w h fun x H' hx => ⟨fun d hd => (hd ⟨by rw [hi]; exact hns, fun h' => by rw [hi, hf] at h'; cases h'⟩).elim, hk _ _ hx⟩

theorem step_calm {o : Oper} {e : Env} {H : Heap} {k : AV → Heap → Prop} (hs : calm o.op = true) (h : gst ops o e H (fun k => opW S (fr + o.dst.getD 0) o e H k) k) :
    gst ops o e H (fun k => opW S (fr + o.dst.getD 0) o e H k) fun x H' => H' = H ∧ k x H' := by
  have hc : ∀ {k : AV → Heap → Prop}, opW S (fr + o.dst.getD 0) o e H k → opW S (fr + o.dst.getD 0) o e H fun x H' => H' = H ∧ k x H' := by
    intro k h
    obtain ⟨dst, op, ty, pos, after, guard⟩ := o
    cases op with
    | load t x =>
      have h : pK (ld (lI S.P t) H (ev e x)) fun x => k x H := h
      show pK (ld (lI S.P t) H (ev e x)) fun x => H = H ∧ k x H
      obtain ⟨x, hx, hk⟩ := pK_some h
      rw [hx]
      exact ⟨rfl, hk⟩
    | _ => simp [calm] at hs
  unfold gst at h ⊢
  split
  · rename_i hg; rw [hg] at h; exact hc h
  · rename_i j want hg
    rw [hg] at h
    simp only at h
    unfold grdK at h ⊢
    split
    · rename_i b hb
      rw [hb] at h
      simp only at h
      split
      · rename_i hc'; rw [if_pos hc'] at h; exact hc h
      · rename_i hc'; rw [if_neg hc'] at h; exact ⟨rfl, h⟩
    · rename_i hb; rw [hb] at h; exact ⟨rfl, h⟩
    · rename_i h1 h2
      split at h
      · rename_i hb; exact (h1 _ hb).elim
      · rename_i hb; exact (h2 _ hb).elim
      · exact h
theorem step_frame' {i : Nat} {o : Oper} {e : Env} {H : Heap} {k : AV → Heap → Prop} {K' : Env → Heap → Prop} (hi : opAt ops i = o) (hns : tied ck o.op = false) (h : gst ops o e H (fun k => opW S (fr + o.dst.getD 0) o e H k) k)
    (hk : ∀ x H', k x H' → K' (putE e o.dst x) H') : AStep S fr ops o e H fun e' H' => (∀ d, ¬ WOf ck fr ops i d → H' d = H d) ∧ K' e' H' := by
  cases hst : still ck o.op with
  | false => exact step_frame hi hst h hk
  | true =>
    have hc : calm o.op = true := by simpa [tied, hst] using hns
    exact step_w (step_calm hc h) fun x H' hx => ⟨fun d _ => by rw [hx.1], hk _ _ hx.2⟩

/-- what an operation that only reads comes to -/
theorem step_q {o : Oper} {e : Env} {H : Heap} {k : AV → Heap → Prop} {R : Nat → Prop}
    (hR : ∀ k, opQ S (fr + o.dst.getD 0) o e H k → ∃ x, k x H ∧ ∀ (H2 : Heap), (∀ d, R d → H2 d = H d) → ∀ (k2 : AV → Heap → Prop), k2 x H2 → opW S (fr + o.dst.getD 0) o e H2 k2)
    (h : gst ops o e H (fun k => opQ S (fr + o.dst.getD 0) o e H k) k) :
    ∃ x, k x H ∧ ∀ (H2 : Heap), (∀ d, R d → H2 d = H d) → ∀ (k2 : Env → Heap → Prop), k2 (putE e o.dst x) H2 → AStep S fr ops o e H2 k2 := by
  unfold gst at h
  split at h
  · rename_i hg
    obtain ⟨x, h1, h2⟩ := hR _ h
    refine ⟨x, h1, fun H2 hH k2 hk => ?_⟩
    unfold AStep
    rw [show guardOf ops e o = some true by simp only [guardOf, hg]]
    exact opW_ok (h2 H2 hH (fun x H' => k2 (putE e o.dst x) H') hk)
  · rename_i j want hg
    rcases grdK_ok hg h with ⟨h1, h2⟩ | ⟨h1, h2⟩
    · obtain ⟨x, h3, h4⟩ := hR _ h2
      refine ⟨x, h3, fun H2 hH k2 hk => ?_⟩
      unfold AStep
      rw [h1]
      exact opW_ok (h4 H2 hH (fun x H' => k2 (putE e o.dst x) H') hk)
    · refine ⟨_, h2, fun H2 hH k2 hk => ?_⟩
      unfold AStep
      rw [h1]
      exact hk

theorem plan_ok : ∀ (n : Nat) (listed : Array Bool) (pl : PStep) (e : Env) (H : Heap), plan ck ops n listed = some pl → listed.size = ops.size → W3 S fr ops pl e H K → AAnyP S fr ops (WOf ck fr ops) K n listed e H := by
  intro n
  induction n using Nat.strongRecOn with
  | _ n ih =>
    intro listed pl e H hp hsz h
    cases n with
    | zero =>
      unfold plan at hp
      split at hp
      · rename_i hr
        injection hp with hp
        subst hp
        exact AAnyP_done hr h
      · cases hp
    | succ n =>
      unfold plan at hp
      split at hp
      · rename_i hr
        injection hp with hp
        subst hp
        exact AAnyP_done hr h
      rename_i i r hr
      split at hp
      · rename_i i' hfind
        obtain ⟨pl', hp', rfl⟩ := Option.map_eq_some_iff.1 hp
        have hcan := List.find?_some hfind
        have hmem := List.mem_of_find?_eq_some hfind
        rw [← hr] at hmem
        obtain ⟨_, o, ho, _⟩ := mem_ready.1 hmem
        have hat := opAt_some ho
        simp only [canQ, Bool.and_eq_true] at hcan
        obtain ⟨⟨⟨c1, c2⟩, c3⟩, c4⟩ := hcan
        rw [hat] at c1 c4
        have hDl : ∀ j, dep ops i' j = true → listed.getD j true = false := fun j hj => by
          have hlt : j < ops.size := by simp only [dep, Bool.and_eq_true, decide_eq_true_eq] at hj; exact hj.1.1
          have := (List.all_eq_true.1 c3) j (List.mem_range.2 hlt)
          simpa [hj] using this
        have hoth : ∀ (j : Nat) (oj : Oper), ops[j]? = some oj → j ≠ i' → listed.getD j true = false → dep ops i' j = false → o.apart ops oj = true ∧ (blind ck o.op || still ck oj.op || (looker o.op && fresh oj.op)) = true ∧ j ∈ others ops listed i' (dep ops i') := by
          intro j oj hj hne hun hD
          have hm : j ∈ others ops listed i' (dep ops i') := by
            unfold others
            refine List.mem_filter.2 ⟨List.mem_range.2 (Array.getElem?_eq_some_iff.1 hj).1, ?_⟩
            simp [hne, hun, hD]
          have := (List.all_eq_true.1 c4) j hm
          simp only [Bool.and_eq_true] at this
          rw [opAt_some hj] at this
          exact ⟨this.1, this.2, hm⟩
        have hself : dep ops i' i' = false := by simp [dep]
        have go : ∀ (R : Nat → Prop) (X : gst ops o e H (fun k => opQ S (fr + o.dst.getD 0) o e H k) fun x H' => W3 S fr ops pl' (putE e o.dst x) H' K)
            (hR : ∀ k, opQ S (fr + o.dst.getD 0) o e H k → ∃ x, k x H ∧ ∀ (H2 : Heap), (∀ d, R d → H2 d = H d) → ∀ (k2 : AV → Heap → Prop), k2 x H2 → opW S (fr + o.dst.getD 0) o e H2 k2)
            (hW : ∀ (j : Nat) (oj : Oper), ops[j]? = some oj → (blind ck o.op || still ck oj.op || (looker o.op && fresh oj.op)) = true → j ∈ others ops listed i' (dep ops i') → ∀ d, R d → ¬ WOf ck fr ops j d),
            AAnyP S fr ops (WOf ck fr ops) K (n + 1) listed e H := by
          intro R X hR hW
          obtain ⟨x, hk, hy⟩ := step_q hR X
          exact AAnyP_first (R := R) (D := dep ops i') ho c2 hself n listed e H hsz hDl
            (fun j oj hj hne hun hD => by
              obtain ⟨a1, a2, a3⟩ := hoth j oj hj hne hun hD
              exact ⟨a1, hW j oj hj a2 a3⟩) hmem hy (ih n (by omega) _ _ _ _ hp' (by simpa using hsz) hk)
        have hstill : ∀ {j : Nat} {oj : Oper} {d : Nat}, ops[j]? = some oj → still ck oj.op = true → ¬ WOf ck fr ops j d := fun hj hs hw => by
          have := hw.1
          rw [opAt_some hj, hs] at this
          cases this
        by_cases hb : blind ck o.op = true
        · have hbans : bansOf ck ops listed i' (dep ops i') = [] := by unfold bansOf; rw [hat, if_pos hb]
          rw [hbans] at h
          unfold W3 at h
          rw [hat] at h
          refine go (fun _ => False) h (fun k hk => ?_) (fun _ _ _ _ _ d hd => hd.elim)
          obtain ⟨x, h1, h2⟩ := opQ_blind hb hk
          exact ⟨x, h1, fun H2 _ k2 hk2 => h2 H2 k2 hk2⟩
        · have hb' : blind ck o.op = false := by simpa using hb
          cases hbans : bansOf ck ops listed i' (dep ops i') with
          | nil =>
            rw [hbans] at h
            unfold W3 at h
            rw [hat] at h
            refine go (fun _ => True) h (fun k hk => ?_) (fun j oj hj hc hm d _ => ?_)
            · obtain ⟨x, h1, h2⟩ := opQ_same c1 hk
              exact ⟨x, h1, fun H2 hH k2 hk2 => by
                have : H2 = H := funext fun d => hH d trivial
                subst this
                exact h2 k2 hk2⟩
            · cases hs : still ck oj.op with
              | true => exact hstill hj hs
              | false =>
                exfalso
                unfold bansOf at hbans
                rw [hat, if_neg hb] at hbans
                have := List.map_eq_nil_iff.1 hbans
                have hm' : j ∈ (others ops listed i' (dep ops i')).filter fun j => !still ck (opAt ops j).op := List.mem_filter.2 ⟨hm, by rw [opAt_some hj, hs]; rfl⟩
                rw [this] at hm'
                cases hm'
          | cons b bs =>
            rw [hbans] at h
            unfold W3 banK at h
            rw [hat] at h
            obtain ⟨hoff, h⟩ := h
            have hex : looker o.op = true := by
              have hmb : b ∈ bansOf ck ops listed i' (dep ops i') := by rw [hbans]; exact List.mem_cons_self
              unfold bansOf at hmb
              rw [hat, if_neg hb] at hmb
              obtain ⟨j, hj, _⟩ := List.mem_map.1 hmb
              obtain ⟨hj1, hj2⟩ := List.mem_filter.1 hj
              have := (List.all_eq_true.1 c4) j hj1
              simp only [Bool.and_eq_true] at this
              have h3 := this.2
              simp only [Bool.not_eq_true'] at hj2
              rw [hb', hj2] at h3
              simp only [Bool.false_or, Bool.and_eq_true] at h3
              exact h3.1
            refine go (fun d => rootOf (lookV e o.op) = some d) h (fun k hk => ?_) (fun j oj hj hc hm d hd hw => ?_)
            · obtain ⟨x, h1, h2⟩ := opQ_look hex hk
              exact ⟨x, h1, fun H2 hH k2 hk2 => h2 H2 hH k2 hk2⟩
            · have hns : still ck oj.op = false := by have := hw.1; rwa [opAt_some hj] at this
              rw [hb', hns, hex] at hc
              simp only [Bool.false_or, Bool.true_and] at hc
              have hd2 := hw.2 (by rw [opAt_some hj]; exact hc)
              unfold offB at hoff
              rw [hd] at hoff
              simp only [Bool.not_eq_true', List.contains_eq_mem, decide_eq_false_iff_not] at hoff
              refine hoff ?_
              rw [← hbans]
              unfold bansOf
              rw [hat, if_neg hb, hd2]
              refine List.mem_map.2 ⟨_, List.mem_map.2 ⟨j, List.mem_filter.2 ⟨hm, by rw [opAt_some hj, hns]; rfl⟩, rfl⟩, rfl⟩
      · split at hp
        · split at hp
          · cases hp
          rename_i hns
          obtain ⟨pl', hp', rfl⟩ := Option.map_eq_some_iff.1 hp
          have hmem : i ∈ Region.ready .any ops listed := by rw [hr]; exact List.mem_cons_self
          obtain ⟨_, o, ho, _⟩ := mem_ready.1 hmem
          have hat := opAt_some ho
          unfold W3 at h
          rw [hat] at h hns
          refine AAnyP_only ho hr (step_frame' hat (by simpa using hns) h fun x H' hx => ih n (by omega) _ _ _ _ hp' (by simpa using hsz) hx)
        · rename_i j hfn
          split at hp
          · cases hp
          rename_i hc
          simp only [Bool.or_eq_true, not_or, Bool.not_eq_true] at hc
          obtain ⟨c1, c2⟩ := hc
          split at hp
          · rename_i pi pj hpi hpj
            injection hp with hp
            subst hp
            have hmi : i ∈ Region.ready .any ops listed := by rw [hr]; exact List.mem_cons_self
            have hmj : j ∈ Region.ready .any ops listed := by rw [hr]; simp
            obtain ⟨_, oi, hoi, _⟩ := mem_ready.1 hmi
            obtain ⟨_, oj, hoj, _⟩ := mem_ready.1 hmj
            have hai := opAt_some hoi
            have haj := opAt_some hoj
            unfold W3 pairK at h
            rw [hai, haj] at h
            rw [hai] at c1
            rw [haj] at c2
            exact AAnyP_pair hoi hoj hr (step_frame' hai c1 h.1 fun x H1 hx => ih n (by omega) _ _ _ _ hpi (by simpa using hsz) hx)
              (step_frame' haj c2 h.2 fun y H1 hy => ih n (by omega) _ _ _ _ hpj (by simpa using hsz) hy)
          · cases hp
        · cases hp

/-- drawn regions in this order -/
def DOkP (S : Sys) (fr : Nat) (D : Array Oper → Env → Heap → (Env → Heap → Prop) → Prop) : Prop :=
  ∀ ops e H K, D ops e H K → S.P.follows .mixedOrders = true ∧ ∃ W, AAnyP S fr ops W K ops.size (Array.replicate ops.size false) e H
theorem drawW_ok (hm : S.P.follows .mixedOrders = true) : DOkP S fr (drawW S fr ck) := by
  intro ops e H K h
  refine ⟨hm, WOf ck fr ops, ?_⟩
  unfold drawW at h
  split at h
  · rename_i pl hp
    exact plan_ok _ _ _ _ _ hp (by simp) h
  · exact h.elim
end
end Go.Abs
