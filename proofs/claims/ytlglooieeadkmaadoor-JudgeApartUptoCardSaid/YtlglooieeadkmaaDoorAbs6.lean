/- Operations in one function; lists of operations; code; calls. No program text. -/
import Derived.Test.YtlglooieeadkmaaDoorAbs5b
set_option linter.unusedVariables false
set_option linter.unusedSimpArgs false
namespace Go.Abs
open Go Go.RowKit

def ev (e : Env) : Operand → AV
  | .tmp t => e t
  | .const v => .v v
  | .global g => .v (.pointer (some ⟨g, 0, none⟩))
  | .func f => .fn f []

def aLen (P : Program) (H : Heap) (t : TypeId) : AV → Option AV
  | .ro l => match P.underlying t with | some (.slice _) => some (.v (.int .i64 l.length)) | _ => none
  | .own o ver _ n _ => match P.underlying t with | some (.slice _) => if cur H o ver then some (.v (.int .i64 n)) else none | _ => none
  | .v (.string s) => match P.underlying t with | some .string => some (.v (.int .i64 (bs s).length)) | _ => none
  | .v (.slice none 0 0) => match P.underlying t with | some (.slice _) => some (.v (.int .i64 0)) | _ => none
  | _ => none

def aBuiltin (P : Program) (b : Builtin) (ts : Array TypeId) (d : Nat) (H : Heap) (xs : List AV) : Option (AV × Heap) :=
  match b, xs with
  | .len, [x] => (ts[0]?).bind fun t => (aLen P H t x).map (·, H)
  | .append, [s, x] => match ts.toList with
    | [t, t'] => if t = t' then aAppend P H d t s x else none
    | _ => none
  | .max, [.v (.int k x), .v (.int _ y)] => some (.v (.int k (max x y)), H)
  | .min, [.v (.int k x), .v (.int _ y)] => some (.v (.int k (min x y)), H)
  | _, _ => none

def aop (P : Program) (o : Oper) (d : Nat) (e : Env) (H : Heap) : Option (AV × Heap) :=
  match o.op with
  | .move x => some (ev e x, H)
  | .assign x => some (ev e x, H)
  | .pick c a b => match ev e c with
    | .v (.bool t) => some (if t then ev e a else ev e b, H)
    | _ => none
  | .alloc t => aAlloc P H d t
  | .box t x => aBox H d t (ev e x)
  | .build t ps => (aBuild P H t (ps.toList.map fun p => (p.1, ev e p.2))).map (·, H)
  | .buildSlice t n ps => aBuildSlice P H d t n (ps.toList.map fun p => (p.1, ev e p.2))
  | .load t x => (aLoad P H t (ev e x)).map (·, H)
  | .store t x y => (aStore P H t (ev e x) (ev e y)).map fun H' => (.bot, H')
  | .binOp op t x y _ => (aBin P op t x y (ev e x) (ev e y)).map (·, H)
  | .unOp op _ x => (aUn op (ev e x)).map (·, H)
  | .convert s t x => (if byI P s t = true then aByt H (ev e x) else aConv P s t (ev e x)).map (·, H)
  | .makeInterface t x => match P.underlying t with
    | some (.interface _) => none
    | some _ => some (.iface t (ev e x), H)
    | none => none
  | .makeFunc fn first caps => match fn with
    | .func f => if first.size = 0 then some (.fn f (caps.toList.map (ev e)), H) else none
    | _ => none
  | .makeSlice t l c => aMake P H d t (ev e l) (ev e c)
  | .slice t x lo hi mx => (aSlice P H t (ev e x) (lo.map (ev e)) (hi.map (ev e)) (mx.map (ev e))).map (·, H)
  | .fieldAddr t x f => (aFieldAddr P H t (ev e x) f).map (·, H)
  | .field t x f => (aField P t (ev e x) f).map (·, H)
  | .indexAddr t x i => (aIndexAddr P H t (ev e x) (ev e i)).map (·, H)
  | .index t x i => (aIndex P t (ev e x) (ev e i)).map (·, H)
  | .extract x i => match ev e x with
    | .tuple vs => (vs[i]?).map (·, H)
    | _ => none
  | .nilCheck x => match ev e x with
    | .ptr o ver off => if cur H o ver then some (.ptr o ver off, H) else none
    | .rd cs => some (.rd cs, H)
    | _ => none
  | .call { callee := .builtin b, args, argTypes } => aBuiltin P b argTypes d H (args.toList.map (ev e))
  | _ => none

def StepN (S : Sys) (O : Origin) (H : Heap) (α : Nat → Option Nat) (w : World) (s : Sem Next) (x : AV) (H' : Heap) : Prop :=
  ∃ v w' α', (s.run S.P w = .ok (.value v) w' ∨ (s.run S.P w = .ok .skip w' ∧ v = undef)) ∧ Base O H' α' w' ∧ LaterS O H α w H' α' w' ∧ Conc w' (okA O w' H' α') H' α' x v

section
variable {S : Sys} {O : Origin} {H : Heap} {α : Nat → Option Nat} {w : World}

theorem Steps.next {s : Sem Value} {x : AV} {H' : Heap} (h : Steps S O H α w s x H') : StepN S O H α w (do pure (.value (← s))) x H' := by
  obtain ⟨v, w', α', h1, h2, h3, h4⟩ := h
  exact ⟨v, w', α', .inl (by simp only [Sem.run_bind, h1, Result.andThen_ok, Sem.run_pure]), h2, h3, h4⟩
theorem StepsU.next {s : Sem Unit} {H' : Heap} (h : StepsU S O H α w s H') : StepN S O H α w (do s; pure .skip) .bot H' := by
  obtain ⟨w', α', h1, h2, h3⟩ := h
  exact ⟨undef, w', α', .inr ⟨by simp only [Sem.run_bind, h1, Result.andThen_ok, Sem.run_pure], rfl⟩, h2, h3, .d _ _ (.bot _)⟩
theorem StepN.same (hB : Base O H α w) {s : Sem Next} {x : AV} {v : Value} (hr : s.run S.P w = .ok (.value v) w) (hc : Conc w (okA O w H α) H α x v) : StepN S O H α w s x H :=
  ⟨v, w, α, .inl hr, hB, Later.refl _ _ _ _, hc⟩

def EnvOk (w : World) (ok : Nat → Prop) (H : Heap) (α : Nat → Option Nat) (e : Env) (a : Act) : Prop := ∀ i, Conc w ok H α (e i) (a.tmps.getD i undef)

theorem ev_ok {ok : Nat → Prop} {e : Env} {a : Act} (h : EnvOk w ok H α e a) (x : Operand) : Conc w ok H α (ev e x) (a.eval x) := by
  cases x with
  | tmp t => exact h t
  | const v => exact .d _ _ (.v _)
  | global g => exact .d _ _ (.v _)
  | func f => exact .d _ _ (.fn f [] #[] rfl (fun j x v h => by simp at h))

theorem evs_ok {ok : Nat → Prop} {e : Env} {a : Act} (h : EnvOk w ok H α e a) (xs : Array Operand) : (xs.toList.map (ev e)).length = (xs.map a.eval).size ∧
    ∀ (j : Nat) (x : AV) (v : Value), (xs.toList.map (ev e))[j]? = some x → (xs.map a.eval)[j]? = some v → Conc w ok H α x v := by
  refine ⟨by simp, fun j x v h1 h2 => ?_⟩
  simp only [List.getElem?_map, Option.map_eq_some_iff, Array.getElem?_toList] at h1
  simp only [Array.getElem?_map, Option.map_eq_some_iff] at h2
  obtain ⟨y, h3, rfl⟩ := h1
  obtain ⟨y', h4, rfl⟩ := h2
  rw [h3] at h4
  injection h4 with h4
  subst h4
  exact ev_ok h y

theorem evp_ok {ok : Nat → Prop} {e : Env} {a : Act} (h : EnvOk w ok H α e a) (xs : Array (Nat × Operand)) : (xs.toList.map fun p => (p.1, ev e p.2)).length = (xs.map fun (i, x) => (i, a.eval x)).size ∧
    ∀ (j : Nat) (p : Nat × AV) (q : Nat × Value), (xs.toList.map fun p => (p.1, ev e p.2))[j]? = some p → (xs.map fun (i, x) => (i, a.eval x))[j]? = some q → p.1 = q.1 ∧ Conc w ok H α p.2 q.2 := by
  refine ⟨by simp, fun j x v h1 h2 => ?_⟩
  simp only [List.getElem?_map, Option.map_eq_some_iff, Array.getElem?_toList] at h1
  simp only [Array.getElem?_map, Option.map_eq_some_iff] at h2
  obtain ⟨y, h3, rfl⟩ := h1
  obtain ⟨y', h4, rfl⟩ := h2
  rw [h3] at h4
  injection h4 with h4
  subst h4
  exact ⟨rfl, ev_ok h _⟩

theorem ev_opt {ok : Nat → Prop} {e : Env} {a : Act} (h : EnvOk w ok H α e a) (x : Option Operand) : (∀ y, x.map (ev e) = some y → ∃ v, x.map a.eval = some v ∧ Conc w ok H α y v) ∧ (x.map (ev e) = none → x.map a.eval = none) := by
  cases x with
  | none => exact ⟨(fun y hy => by cases hy), fun _ => rfl⟩
  | some x => exact ⟨fun y hy => ⟨a.eval x, rfl, by simp only [Option.map_some, Option.some.injEq] at hy; subst hy; exact ev_ok h x⟩, (fun h => by cases h)⟩

theorem len_two {β : Type} {l : List β} (h : l.length = 2) : ∃ a b, l = [a, b] := by
  match l, h with
  | [a, b], _ => exact ⟨a, b, rfl⟩

theorem aLen_ok (hB : Base O H α w) {t : TypeId} {ts : Array TypeId} {ty : TypeId} {x y : AV} {v : Value} (ht : ts[0]? = some t) (h : Conc w (okA O w H α) H α x v) (he : aLen S.P H t x = some y) :
    Steps S O H α w (Builtin.len_ ts ty #[v]) y H := by
  unfold aLen at he
  split at he
  · rename_i l
    split at he
    · rename_i hu
      injection he with he
      subst he
      obtain ⟨A, c, rfl, _⟩ := h.ro_inv.ro_slice
      exact Steps.same hB (by simp [Builtin.len_, ht, run_underlying hu, goInt]) (.d _ _ (.v _))
    · cases he
  · rename_i o ver off n sz
    split at he
    · rename_i hu
      split at he
      · rename_i hc
        injection he with he
        subst he
        obtain ⟨h1, h2⟩ := cur_iff.1 hc
        have hov := h.own_inv.2 h1.symm h2
        unfold OwnV at hov
        cases hα : α o with
        | none =>
          rw [hα] at hov
          obtain ⟨rfl, rfl, rfl⟩ := hov
          exact Steps.same hB (by simp [Builtin.len_, ht, run_underlying hu, goInt]) (.d _ _ (.v _))
        | some b =>
          rw [hα] at hov
          obtain ⟨c, _, rfl, _⟩ := hov
          exact Steps.same hB (by simp [Builtin.len_, ht, run_underlying hu, goInt]) (.d _ _ (.v _))
      · cases he
    · cases he
  · rename_i s
    split at he
    · rename_i hu
      injection he with he
      subst he
      rw [h.v_inv]
      exact Steps.same hB (by simp [Builtin.len_, ht, run_underlying hu, goInt, size_bs]) (.d _ _ (.v _))
    · cases he
  · split at he
    · rename_i hu
      injection he with he
      subst he
      rw [h.v_inv]
      exact Steps.same hB (by simp [Builtin.len_, ht, run_underlying hu, goInt]) (.d _ _ (.v _))
    · cases he
  · cases he

theorem aop_ok (hO : OWf S O) (hB : Base O H α w) {o : Oper} {d : Nat} {e : Env} {a : Act} (hE : EnvOk w (okA O w H α) H α e a) {y : AV} {H' : Heap} (he : aop S.P o d e H = some (y, H')) :
    StepN S O H α w (execOp a.eval o) y H' := by
  have mp : ∀ {q : Option AV}, q.map (fun z => (z, H)) = some (y, H') → q = some y ∧ H' = H := fun {q} h => by
    obtain ⟨z, h1, h2⟩ := Option.map_eq_some_iff.1 h
    simp only [Prod.mk.injEq] at h2
    obtain ⟨rfl, rfl⟩ := h2
    exact ⟨h1, rfl⟩
  unfold aop at he
  unfold execOp
  generalize o.op = op at he
  cases op with
  | move x =>
    simp only [Option.some.injEq, Prod.mk.injEq] at he
    obtain ⟨rfl, rfl⟩ := he
    exact StepN.same hB rfl (ev_ok hE x)
  | assign x =>
    simp only [Option.some.injEq, Prod.mk.injEq] at he
    obtain ⟨rfl, rfl⟩ := he
    exact StepN.same hB rfl (ev_ok hE x)
  | pick c x z =>
    simp only at he
    split at he
    · rename_i t hc
      simp only [Option.some.injEq, Prod.mk.injEq] at he
      obtain ⟨rfl, rfl⟩ := he
      have h0 := ev_ok hE c
      rw [hc] at h0
      refine StepN.same hB (v := if t then a.eval x else a.eval z) (by simp [h0.v_inv, asBool]) ?_
      cases t
      · exact ev_ok hE z
      · exact ev_ok hE x
    · cases he
  | alloc t => exact (aAlloc_ok hO hB he).next
  | box t x => exact (aBox_ok hO hB (ev_ok hE x) he).next
  | build t ps =>
    obtain ⟨h1, rfl⟩ := mp he
    exact (aBuild_ok hB (evp_ok hE ps).1 (evp_ok hE ps).2 h1).next
  | buildSlice t n ps => exact (aBuildSlice_ok hO hB (evp_ok hE ps).1 (evp_ok hE ps).2 he).next
  | load t x =>
    obtain ⟨h1, rfl⟩ := mp he
    exact (aLoad_ok hB (ev_ok hE x) h1).next
  | store t x z =>
    obtain ⟨H2, h1, h2⟩ := Option.map_eq_some_iff.1 he
    simp only [Prod.mk.injEq] at h2
    obtain ⟨rfl, rfl⟩ := h2
    exact (aStore_ok hO hB (ev_ok hE x) (ev_ok hE z) h1).next
  | binOp op t x z t' =>
    obtain ⟨h1, rfl⟩ := mp he
    exact (aBin_ok hB (ev_ok hE x) (ev_ok hE z) h1).next
  | unOp op t x =>
    obtain ⟨h1, rfl⟩ := mp he
    exact (aUn_ok hB (ev_ok hE x) h1).next
  | convert s t x =>
    obtain ⟨h1, rfl⟩ := mp he
    split at h1
    · rename_i hI
      exact (aByt_ok hB (ev_ok hE x) hI h1).next
    · exact (aConv_ok hB (ev_ok hE x) h1).next
  | makeInterface t x =>
    simp only at he
    split at he
    · cases he
    · rename_i d hd hu
      simp only [Option.some.injEq, Prod.mk.injEq] at he
      obtain ⟨rfl, rfl⟩ := he
      refine StepN.same hB (v := .iface t (a.eval x)) ?_ (.iface _ _ _ (ev_ok hE x))
      simp only [Instr.makeInterface, Sem.run_bind, run_underlying hu, Result.andThen_ok]
      cases d <;> first | rfl | (exact (hd _ hu).elim)
    · cases he
  | makeFunc fn first caps =>
    simp only at he
    split at he
    · rename_i f
      split at he
      · rename_i h0
        have h1 : first = #[] := Array.eq_empty_of_size_eq_zero h0
        subst h1
        simp only [Option.some.injEq, Prod.mk.injEq] at he
        obtain ⟨rfl, rfl⟩ := he
        exact StepN.same hB (v := .func (.func f) #[] (caps.map a.eval)) (by simp [Instr.makeFunc]) (.fn f _ _ (evs_ok hE caps).1 (evs_ok hE caps).2)
      · cases he
    · cases he
  | makeSlice t l c => exact (aMake_ok hO hB (ev_ok hE l) (ev_ok hE c) he).next
  | slice t x lo hi mx =>
    obtain ⟨h1, rfl⟩ := mp he
    exact (aSlice_ok hB (ev_ok hE x) (ev_opt hE lo).1 (ev_opt hE lo).2 (ev_opt hE hi).1 (ev_opt hE hi).2 (ev_opt hE mx).2 h1).next
  | fieldAddr t x f =>
    obtain ⟨h1, rfl⟩ := mp he
    exact (aFieldAddr_ok hB (ev_ok hE x) h1).next
  | field t x f =>
    obtain ⟨h1, rfl⟩ := mp he
    exact (aField_ok hB (ev_ok hE x) h1).next
  | indexAddr t x i =>
    obtain ⟨h1, rfl⟩ := mp he
    exact (aIndexAddr_ok hB (ev_ok hE x) (ev_ok hE i) h1).next
  | index t x i =>
    obtain ⟨h1, rfl⟩ := mp he
    exact (aIndex_ok hB (ev_ok hE x) (ev_ok hE i) h1).next
  | extract x i =>
    simp only at he
    split at he
    · rename_i vs hx
      obtain ⟨h1, rfl⟩ := mp he
      have h0 := ev_ok hE x
      rw [hx] at h0
      obtain ⟨us, hu, hl, hr⟩ := h0.tuple_inv
      have hi : i < us.size := by have := (List.getElem?_eq_some_iff.1 h1).1; omega
      exact StepN.same hB (v := us[i]) (by simp [hu, Instr.extract, hi]) (hr i _ _ h1 (Array.getElem?_eq_getElem hi))
    · cases he
  | nilCheck x =>
    simp only at he
    have h0 := ev_ok hE x
    split at he
    · rename_i o' ver off hx
      split at he
      · rename_i hc
        simp only [Option.some.injEq, Prod.mk.injEq] at he
        obtain ⟨rfl, rfl⟩ := he
        rw [hx] at h0
        obtain ⟨h1, h2⟩ := cur_iff.1 hc
        obtain ⟨b, h3, h4⟩ := h0.ptr_inv.2 h1.symm h2
        exact StepN.same hB (v := a.eval x) (by simp only [h4]; rfl) h0
      · cases he
    · rename_i cs hx
      simp only [Option.some.injEq, Prod.mk.injEq] at he
      obtain ⟨rfl, rfl⟩ := he
      rw [hx] at h0
      refine StepN.same hB (v := a.eval x) ?_ h0
      have h1 := h0.rd_inv
      simp only
      generalize a.eval x = u at h1 ⊢
      cases h1
      rfl
    · cases he
  | call c =>
    obtain ⟨callee, args, ts⟩ := c
    cases callee with
    | value f => simp at he
    | invoke r m => simp at he
    | builtin b =>
      simp only at he
      unfold aBuiltin at he
      obtain ⟨hl, hr⟩ := evs_ok hE args
      split at he
      · rename_i x hx
        obtain ⟨t, ht, h1⟩ := Option.bind_eq_some_iff.1 he
        obtain ⟨h2, rfl⟩ := mp h1
        have hs : (args.map a.eval).toList.length = 1 := by rw [Array.length_toList, ← hl, hx]; rfl
        obtain ⟨u, hu⟩ := List.length_eq_one_iff.1 hs
        have hua : args.map a.eval = #[u] := by rw [← Array.toArray_toList (xs := args.map a.eval), hu]
        have hc := hr 0 x u (by rw [hx]; rfl) (by rw [hua]; rfl)
        have := (aLen_ok (ty := o.type) hB ht hc h2).next
        simp only [resolve, invoke, builtin, Sem.run_bind, pure_bind, hua]
        exact this
      · rename_i s x hx
        split at he
        · rename_i t t' htt
          split at he
          · rename_i hteq
            subst hteq
            have hs : (args.map a.eval).toList.length = 2 := by rw [Array.length_toList, ← hl, hx]; rfl
            obtain ⟨u, v, hu⟩ := len_two hs
            have hua : args.map a.eval = #[u, v] := by rw [← Array.toArray_toList (xs := args.map a.eval), hu]
            have hc0 := hr 0 s u (by rw [hx]; rfl) (by rw [hua]; rfl)
            have hc1 := hr 1 x v (by rw [hx]; rfl) (by rw [hua]; rfl)
            have hts : ts = #[t, t] := by rw [← Array.toArray_toList (xs := ts), htt]
            have := (aAppend_ok (ty := o.type) hO hB hc0 hc1 he).next
            simp only [resolve, invoke, builtin, pure_bind, hua, hts]
            exact this
          · cases he
        · cases he
      · rename_i k x k' z hx
        simp only [Option.some.injEq, Prod.mk.injEq] at he
        obtain ⟨rfl, rfl⟩ := he
        have hs : (args.map a.eval).toList.length = 2 := by rw [Array.length_toList, ← hl, hx]; rfl
        obtain ⟨u, v, hu⟩ := len_two hs
        have hua : args.map a.eval = #[u, v] := by rw [← Array.toArray_toList (xs := args.map a.eval), hu]
        have hc0 := (hr 0 _ u (by rw [hx]; rfl) (by rw [hua]; rfl)).v_inv
        have hc1 := (hr 1 _ v (by rw [hx]; rfl) (by rw [hua]; rfl)).v_inv
        refine StepN.same hB (v := .int k (max x z)) ?_ (.d _ _ (.v _))
        simp only [resolve, invoke, builtin, pure_bind, hua, hc0, hc1, Builtin.max_, List.foldlM_cons, List.foldlM_nil, Builtin.max2, bind_pure]
        rw [show (if z > x then z else x) = max x z by split <;> omega]
        rfl
      · rename_i k x k' z hx
        simp only [Option.some.injEq, Prod.mk.injEq] at he
        obtain ⟨rfl, rfl⟩ := he
        have hs : (args.map a.eval).toList.length = 2 := by rw [Array.length_toList, ← hl, hx]; rfl
        obtain ⟨u, v, hu⟩ := len_two hs
        have hua : args.map a.eval = #[u, v] := by rw [← Array.toArray_toList (xs := args.map a.eval), hu]
        have hc0 := (hr 0 _ u (by rw [hx]; rfl) (by rw [hua]; rfl)).v_inv
        have hc1 := (hr 1 _ v (by rw [hx]; rfl) (by rw [hua]; rfl)).v_inv
        refine StepN.same hB (v := .int k (min x z)) ?_ (.d _ _ (.v _))
        simp only [resolve, invoke, builtin, pure_bind, hua, hc0, hc1, Builtin.min_, List.foldlM_cons, List.foldlM_nil, Builtin.min2, bind_pure]
        rw [show (if z < x then z else x) = min x z by split <;> omega]
        rfl
      · cases he
  | _ => simp at he
end
end Go.Abs
