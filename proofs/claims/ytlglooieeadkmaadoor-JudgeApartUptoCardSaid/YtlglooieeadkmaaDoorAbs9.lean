/- The moves of a walk. No program text. -/
import Derived.Test.YtlglooieeadkmaaDoorAbs8
set_option linter.unusedVariables false
set_option linter.unusedSimpArgs false
namespace Go.Abs
open Go Go.RowKit
section
variable {S : Sys} {fr : Nat} {e : Env} {H : Heap} {Q : AExit → Env → Heap → Prop}
theorem AWp_seq {x y : Code} (h : AWp S fr x e H fun z e' H' => match z with
    | .normal => AWp S fr y e' H' Q
    | z => Q z e' H') : AWp S fr (.seq x y) e H Q := h
theorem AWp_block {id : Nat} {c : Code} (h : AWp S fr c e H fun z e' H' => match z with
    | .exit i => if i = id then Q .normal e' H' else Q (.exit i) e' H'
    | z => Q z e' H') : AWp S fr (.block id c) e H Q := h
theorem AWp_line {id : Nat} {ops : Array Oper} {e1 : Env} {H1 : Heap} (h : ∀ R : Env → Heap → Prop, R e1 H1 → AOps S fr ops ops.toList e H R) (hq : Q .normal e1 H1) : AWp S fr (.region id ops false) e H Q := h _ hq
theorem AWp_post {id : Nat} {ops : Array Oper} (M : Env → Heap → Prop) (h : AOps S fr ops ops.toList e H M) (hq : ∀ e1 H1, M e1 H1 → Q .normal e1 H1) : AWp S fr (.region id ops false) e H Q := AOps_mono h hq
theorem AWp_exit {id : Nat} (h : Q (.exit id) e H) : AWp S fr (.exit id) e H Q := h
theorem AWp_ret (h : Q .ret e H) : AWp S fr .ret e H Q := h
theorem AWp_skip (h : Q .normal e H) : AWp S fr .skip e H Q := h
theorem AWp_cond {c : Operand} {x y : Code} (t : Bool) (hc : ev e c = .v (.bool t)) (h1 : t = true → AWp S fr x e H Q) (h2 : t = false → AWp S fr y e H Q) : AWp S fr (.cond c x y) e H Q := by
  simp only [AWp, hc]
  cases t
  · exact h2 rfl
  · exact h1 rfl
theorem Ends_ok {P : Program} {fn : Func} {K : AV → Heap → Prop} {r : AV} (hr : resA P fn e H = some r) (hk : K r H) : Ends P fn K .ret e H := by
  simp only [Ends, hr]; exact hk
theorem Ends_normal {P : Program} {fn : Func} {K : AV → Heap → Prop} {r : AV} (hr : resA P fn e H = some r) (hk : K r H) : Ends P fn K .normal e H := by
  simp only [Ends, hr]; exact hk

/-! ### one operation -/
variable {ops : Array Oper} {rest : List Oper} {K : Env → Heap → Prop} {dst : Option Tmp} {op : Op} {ty : TypeId} {pos : String} {after : Array Edge} {g : Option (Nat × Bool)}
def notCall : Op → Bool
  | .call { callee := .value _, .. } => false
  | _ => true
theorem st_on {d : Tmp} {x : AV} {H1 : Heap} (hx : aop S.P ⟨some d, op, ty, pos, after, none⟩ (fr + d) e H = some (x, H1)) (hn : notCall op = true) (h : AOps S fr ops rest (upd e d x) H1 K) : AOps S fr ops (⟨some d, op, ty, pos, after, none⟩ :: rest) e H K := by
  simp only [AOps, guardOf]
  unfold AOp1
  split
  · rename_i hop; simp only at hop; rw [hop] at hn; cases hn
  · simp only [Option.getD_some, hx]; exact h
theorem st_non {x : AV} {H1 : Heap} (hx : aop S.P ⟨none, op, ty, pos, after, none⟩ (fr + 0) e H = some (x, H1)) (hn : notCall op = true) (h : AOps S fr ops rest e H1 K) : AOps S fr ops (⟨none, op, ty, pos, after, none⟩ :: rest) e H K := by
  simp only [AOps, guardOf]
  unfold AOp1
  split
  · rename_i hop; simp only at hop; rw [hop] at hn; cases hn
  · simp only [Option.getD_none, hx]; exact h
theorem st_call {f : Operand} {args : Array Operand} {ts : Array TypeId} {gg : Nat} {caps : List AV} {K' : AV → Heap → Prop} (hf : ev e f = .fn gg caps)
    (hc : ACall S gg (args.toList.map (ev e) ++ caps) H K') (h : ∀ r H', K' r H' → AOps S fr ops rest (putE e dst r) H' K) : AOps S fr ops (⟨dst, .call { callee := .value f, args, argTypes := ts }, ty, pos, after, none⟩ :: rest) e H K := by
  simp only [AOps, guardOf, AOp1, hf]
  exact hc.mono h
/-- a call that only computes -/
theorem st_pure {d : Tmp} {f : Operand} {args : Array Operand} {ts : Array TypeId} {gg : Nat} {caps xs : List AV} {r : AV} (hf : ev e f = .fn gg caps) (hx : args.toList.map (ev e) ++ caps = xs)
    (hc : APure S gg xs r) (hp : ∀ x ∈ xs, Pure x) (h : AOps S fr ops rest (upd e d r) H K) : AOps S fr ops (⟨some d, .call { callee := .value f, args, argTypes := ts }, ty, pos, after, none⟩ :: rest) e H K := by
  subst hx
  exact st_call (K' := fun r' H' => r' = r ∧ H' = H) hf (ACall.pure hc hp ⟨rfl, rfl⟩) fun r' H' ⟨h1, h2⟩ => by subst h1 h2; exact h
/-- a guarded operation: it comes up or not -/
def isB : AV → Bool
  | .v (.bool _) => true
  | .v (.tuple _) => true
  | _ => false
theorem st_guard {d : Tmp} {j : Nat} {want : Bool} {x : AV} {q : Tmp} (hd : (ops[j]?).bind (·.dst) = some q) (he : e q = x) (hx : isB x = true) (h1 : x = .v (.bool want) → AOps S fr ops (⟨some d, op, ty, pos, after, none⟩ :: rest) e H K)
    (h2 : ¬ x = .v (.bool want) → AOps S fr ops rest (upd e d (.v undef)) H K) : AOps S fr ops (⟨some d, op, ty, pos, after, some (j, want)⟩ :: rest) e H K := by
  unfold isB at hx
  split at hx
  · rename_i b
    by_cases hb : b = want
    · have := h1 (by rw [hb])
      simp only [AOps, guardOf, hd, he, hb, beq_self_eq_true] at this ⊢
      exact this
    · have hb' : b = !want := by cases b <;> cases want <;> first | rfl | exact (hb rfl).elim
      have := h2 (by intro h; injection h with h; injection h with h; exact hb h)
      simp only [AOps, guardOf, hd, he, hb']
      cases want <;> exact this
  · have := h2 (by intro h; injection h with h; cases h)
    simp only [AOps, guardOf, hd, he]
    exact this
  · cases hx
theorem st_nil (h : K e H) : AOps S fr ops [] e H K := h

/-! ### what each operation makes -/
variable {P : Program} {d : Nat} {x y : Operand}
theorem a_move : aop P ⟨dst, .move x, ty, pos, after, g⟩ d e H = some (ev e x, H) := rfl
theorem a_assign : aop P ⟨dst, .assign x, ty, pos, after, g⟩ d e H = some (ev e x, H) := rfl
theorem a_pick {c : Operand} : aop P ⟨dst, .pick c x y, ty, pos, after, g⟩ d e H = match ev e c with
    | .v (.bool t) => some (if t then ev e x else ev e y, H)
    | _ => none := rfl
theorem a_alloc {t : TypeId} : aop P ⟨dst, .alloc t, ty, pos, after, g⟩ d e H = aAlloc P H d t := rfl
theorem a_box {t : TypeId} : aop P ⟨dst, .box t x, ty, pos, after, g⟩ d e H = aBox H d t (ev e x) := rfl
theorem a_build {t : TypeId} {ps : Array (Nat × Operand)} : aop P ⟨dst, .build t ps, ty, pos, after, g⟩ d e H = (aBuild P H t (ps.toList.map fun p => (p.1, ev e p.2))).map (·, H) := rfl
theorem a_buildSlice {t : TypeId} {n : Nat} {ps : Array (Nat × Operand)} : aop P ⟨dst, .buildSlice t n ps, ty, pos, after, g⟩ d e H = aBuildSlice P H d t n (ps.toList.map fun p => (p.1, ev e p.2)) := rfl
theorem a_load {t : TypeId} : aop P ⟨dst, .load t x, ty, pos, after, g⟩ d e H = (aLoad P H t (ev e x)).map (·, H) := rfl
theorem a_store {t : TypeId} : aop P ⟨dst, .store t x y, ty, pos, after, g⟩ d e H = (aStore P H t (ev e x) (ev e y)).map fun H' => (.bot, H') := rfl
theorem a_bin {b : BinOp} {t t' : TypeId} : aop P ⟨dst, .binOp b t x y t', ty, pos, after, g⟩ d e H = (aBin P b t x y (ev e x) (ev e y)).map (·, H) := rfl
theorem a_un {b : UnOp} {t : TypeId} : aop P ⟨dst, .unOp b t x, ty, pos, after, g⟩ d e H = (aUn b (ev e x)).map (·, H) := rfl
theorem a_conv {s t : TypeId} : aop P ⟨dst, .convert s t x, ty, pos, after, g⟩ d e H = (if byI P s t = true then aByt H (ev e x) else aConv P s t (ev e x)).map (·, H) := rfl
theorem a_iface {t : TypeId} : aop P ⟨dst, .makeInterface t x, ty, pos, after, g⟩ d e H = match P.underlying t with
    | some (.interface _) => none
    | some _ => some (.iface t (ev e x), H)
    | none => none := rfl
theorem a_makeSlice {t : TypeId} {l c : Operand} : aop P ⟨dst, .makeSlice t l c, ty, pos, after, g⟩ d e H = aMake P H d t (ev e l) (ev e c) := rfl
theorem a_slice {t : TypeId} {lo hi mx : Option Operand} : aop P ⟨dst, .slice t x lo hi mx, ty, pos, after, g⟩ d e H = (aSlice P H t (ev e x) (lo.map (ev e)) (hi.map (ev e)) (mx.map (ev e))).map (·, H) := rfl
theorem a_fieldAddr {t : TypeId} {f : Nat} : aop P ⟨dst, .fieldAddr t x f, ty, pos, after, g⟩ d e H = (aFieldAddr P H t (ev e x) f).map (·, H) := rfl
theorem a_field {t : TypeId} {f : Nat} : aop P ⟨dst, .field t x f, ty, pos, after, g⟩ d e H = (aField P t (ev e x) f).map (·, H) := rfl
theorem a_indexAddr {t : TypeId} {i : Operand} : aop P ⟨dst, .indexAddr t x i, ty, pos, after, g⟩ d e H = (aIndexAddr P H t (ev e x) (ev e i)).map (·, H) := rfl
theorem a_index {t : TypeId} {i : Operand} : aop P ⟨dst, .index t x i, ty, pos, after, g⟩ d e H = (aIndex P t (ev e x) (ev e i)).map (·, H) := rfl
theorem a_extract {i : Nat} : aop P ⟨dst, .extract x i, ty, pos, after, g⟩ d e H = match ev e x with
    | .tuple vs => (vs[i]?).map (·, H)
    | _ => none := rfl
theorem a_nilCheck : aop P ⟨dst, .nilCheck x, ty, pos, after, g⟩ d e H = match ev e x with
    | .ptr o ver off => if cur H o ver then some (.ptr o ver off, H) else none
    | .rd cs => some (.rd cs, H)
    | _ => none := rfl
theorem a_len {t : TypeId} : aop P ⟨dst, .call { callee := .builtin .len, args := #[x], argTypes := #[t] }, ty, pos, after, g⟩ d e H = (aLen P H t (ev e x)).map (·, H) := rfl
theorem a_append {t t' : TypeId} : aop P ⟨dst, .call { callee := .builtin .append, args := #[x, y], argTypes := #[t, t'] }, ty, pos, after, g⟩ d e H = if t = t' then aAppend P H d t (ev e x) (ev e y) else none := rfl
def two (f : Int → Int → Int) (H : Heap) : AV → AV → Option (AV × Heap)
  | .v (.int k x), .v (.int _ y) => some (.v (.int k (f x y)), H)
  | _, _ => none
theorem a_max {ts : Array TypeId} : aop P ⟨dst, .call { callee := .builtin .max, args := #[x, y], argTypes := ts }, ty, pos, after, g⟩ d e H = two max H (ev e x) (ev e y) := by
  show aBuiltin P .max ts d H [ev e x, ev e y] = _
  generalize ev e x = u
  generalize ev e y = v
  unfold two
  split
  · rfl
  · rename_i hne
    unfold aBuiltin
    split <;> first | rfl | contradiction | (rename_i h; cases h; done) | (rename_i h; simp only [List.cons.injEq, and_true] at h; exact (hne _ _ _ _ h.1 h.2).elim)
theorem a_min {ts : Array TypeId} : aop P ⟨dst, .call { callee := .builtin .min, args := #[x, y], argTypes := ts }, ty, pos, after, g⟩ d e H = two min H (ev e x) (ev e y) := by
  show aBuiltin P .min ts d H [ev e x, ev e y] = _
  generalize ev e x = u
  generalize ev e y = v
  unfold two
  split
  · rfl
  · rename_i hne
    unfold aBuiltin
    split <;> first | rfl | contradiction | (rename_i h; cases h; done) | (rename_i h; simp only [List.cons.injEq, and_true] at h; exact (hne _ _ _ _ h.1 h.2).elim)
theorem a_builtin {b : Builtin} {args : Array Operand} {ts : Array TypeId} : aop P ⟨dst, .call { callee := .builtin b, args, argTypes := ts }, ty, pos, after, g⟩ d e H = aBuiltin P b ts d H (args.toList.map (ev e)) := rfl

theorem putE_some {t : Tmp} {v : AV} : putE e (some t) v = upd e t v := rfl
theorem putE_none {v : AV} : putE e none v = e := rfl
theorem ev_tmp {t : Tmp} : ev e (.tmp t) = e t := rfl
theorem ev_const {v : Value} : ev e (.const v) = .v v := rfl
theorem ev_func {f : Nat} : ev e (.func f) = .fn f [] := rfl
theorem upd_at {i j : Nat} {v : AV} : upd e i v j = if j = i then v else e j := rfl
end
end Go.Abs
