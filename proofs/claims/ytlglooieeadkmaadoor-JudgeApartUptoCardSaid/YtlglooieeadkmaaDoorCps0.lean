/- Code in continuation form: each operation as one word over what it looks at, types resolved. No program text. -/
import Derived.Test.YtlglooieeadkmaaDoorCpsE
set_option linter.unusedVariables false
set_option linter.unusedSimpArgs false
namespace Go.Abs
open Go Go.RowKit

/-! ### words -/
def pK (r : Option AV) (k : AV → Prop) : Prop := match r with
  | some x => k x
  | none => False
def hK (r : Option (AV × Heap)) (k : AV → Heap → Prop) : Prop := match r with
  | some p => k p.1 p.2
  | none => False
def sK (r : Option Heap) (k : Heap → Prop) : Prop := match r with
  | some H => k H
  | none => False
def cK (S : Sys) (f : AV) (xs : List AV) (H : Heap) (k : AV → Heap → Prop) : Prop := match f with
  | .fn g caps => ACall S g (xs ++ caps) H k
  | _ => False
def condK (c : AV) (X Y : Prop) : Prop := match c with
  | .v (.bool t) => if t then X else Y
  | _ => False
def grdK (c : AV) (want : Bool) (H : Heap) (X : (AV → Heap → Prop) → Prop) (k : AV → Heap → Prop) : Prop := match c with
  | .v (.bool b) => if b == want then X k else k (.v undef) H
  | .v (.tuple _) => k (.v undef) H
  | _ => False
def joinK (X : (List AV → Heap → Prop) → Prop) (Y : List AV → Heap → Prop) : Prop := X Y
def LoopK (F : (List AV → Heap → Prop) → List AV → Heap → Prop) (vs : List AV) (H : Heap) : Prop :=
  ∀ I : List AV → Heap → Prop, (∀ vs H, F I vs H → I vs H) → I vs H

/-! ### what each operation makes, its types resolved -/
abbrev I (n : Int) : AV := .v (.int .i64 n)
abbrev B (b : Bool) : AV := .v (.bool b)
abbrev T (l : List UInt8) : AV := .v (.string (str l))
abbrev U : AV := .v undef
abbrev N0 : AV := .v (.slice none 0 0)
inductive EqI where
  | prim | bool | iface | flat (l : List PK) | no
def isC : Operand → Bool
  | .const _ => true
  | _ => false
def flI (l : Option (List PK)) (g : Bool) : EqI := match l with
  | some l => if g then .no else .flat l
  | none => .no
theorem flI_ne {l : Option (List PK)} {g : Bool} (h : flI l g = .prim ∨ flI l g = .bool ∨ flI l g = .iface) : False := by
  unfold flI at h
  split at h
  · split at h <;> simp at h
  · simp at h
theorem flI_flat {l : Option (List PK)} {g : Bool} {m : List PK} (h : flI l g = .flat m) : l = some m ∧ g = false := by
  unfold flI at h
  split at h
  · split at h
    · cases h
    · rename_i hg
      injection h with h
      subst h
      exact ⟨rfl, by simpa using hg⟩
  · cases h
def eqI (P : Program) (op : BinOp) (t : TypeId) (ox oy : Operand) : EqI := match P.underlying t with
  | some (.interface _) => if isC ox || isC oy then .iface else .no
  | some (.struct _) => flI (flatK P 9 t) (P.eqGuardType P.depth t)
  | some .bool => .bool
  | some _ => .prim
  | none => .no
def eqC : List AV → List AV → Option Bool
  | [], [] => some true
  | .v (.int k a) :: xs, .v (.int k' b) :: ys => if k = k' then (eqC xs ys).map fun r => (a == b) && r else none
  | .v (.bool a) :: xs, .v (.bool b) :: ys => (eqC xs ys).map fun r => (a == b) && r
  | .v (.string a) :: xs, .v (.string b) :: ys => (eqC xs ys).map fun r => (bs a == bs b) && r
  | _, _ => none
def aggV : AV → Option (List Value)
  | .agg cs => cs.mapM leafV
  | _ => none
def bn (i : EqI) (op : BinOp) (x y : AV) : Option AV := match i, x, y with
  | .prim, .v a, .v b => (sBin op a b).map .v
  | .bool, .v (.bool a), .v (.bool b) => match op with
    | .eql => some (B (a == b))
    | .neq => some (B (!(a == b)))
    | _ => none
  | .iface, .iface _ _, .v .nilIface => match op with
    | .eql => some (B false)
    | .neq => some (B true)
    | _ => none
  | .iface, .v .nilIface, .v .nilIface => match op with
    | .eql => some (B true)
    | .neq => some (B false)
    | _ => none
  | .flat l, x, y => match aggV x, aggV y with
    | some xs, some ys => match eqKs l xs ys with
      | some b => match op with
        | .eql => some (B b)
        | .neq => some (B !b)
        | _ => none
      | none => none
    | _, _ => none
  | _, _, _ => none
def un (op : UnOp) (x : AV) : Option AV := aUn op x
def pick (c a b : AV) : Option AV := match c with
  | .v (.bool t) => some (if t then a else b)
  | _ => none
def ld (i : Option (Bool × Nat)) (H : Heap) (x : AV) : Option AV := match i, behind H x with
  | some (true, sz), some cs => if sz ≤ cs.length then some (.agg (cs.take sz)) else none
  | some (false, _), some cs => cs.head?
  | _, _ => none
def st (i : Option (Bool × Nat)) (H : Heap) (x y : AV) : Option Heap := match x, i, cellsA H y with
  | .ptr o ver off, some (_, sz), some cs =>
    if cur H o ver && cs.length == sz && cs.all (leaf H) && decide (off + sz ≤ (H o).cs.length) then
      some (upd H o ⟨(H o).ver, true, (H o).cs.take off ++ cs ++ (H o).cs.drop (off + sz), (H o).t⟩) else none
  | _, _, _ => none
def fa (i : Option Nat) (H : Heap) (x : AV) : Option AV := match x, i with
  | .rd cs, some off => some (.rd (cs.drop off))
  | .ptr o ver o', some off => if cur H o ver then some (.ptr o ver (o' + off)) else none
  | _, _ => none
def prt (i : Bool × Nat) (cs : List AV) (off : Nat) : Option AV := match i with
  | (true, sz) => if off + sz ≤ cs.length then some (.agg ((cs.drop off).take sz)) else none
  | (false, _) => cs[off]?
def fi (i : Option (Nat × Bool × Nat)) (x : AV) : Option AV := match x, i with
  | .agg cs, some (off, j) => prt j cs off
  | _, _ => none
/-- an element's address: of a slice (its cells), or of an array (its length, an element's cells) -/
inductive IaI where
  | sl (sz : Nat) | ar (len sz : Nat) | no
def iaI (P : Program) (t : TypeId) : IaI := match eI P t with
  | some (_, sz, _, _) => .sl sz
  | none => match aI P t with
    | some (len, _, sz) => .ar len sz
    | none => .no
def ia (i : IaI) (H : Heap) (x n : AV) : Option AV := match n with
  | .v (.int _ n) => match i with
    | .sl sz => aIdxSl H sz x n
    | .ar len sz => aIdxAr H len sz x n
    | .no => none
  | _ => none
inductive IxI where
  | s | ar (len sz : Nat) (j : Bool × Nat) | no
def ixI (P : Program) (t : TypeId) : IxI := match P.underlying t with
  | some .string => .s
  | _ => match aI P t with
    | some (len, e, sz) => match lI P e with
      | some j => .ar len sz j
      | none => .no
    | none => .no
def ix (i : IxI) (x n : AV) : Option AV := match n with
  | .v (.int _ n) => match i, x with
    | .s, .v (.string s) => if 0 ≤ n ∧ n < ((bs s).length : Int) then some (.v (.int .u8 (((bs s)[n.toNat]?).getD 0).toNat)) else none
    | .ar len sz j, .agg cs => if 0 ≤ n ∧ n < (len : Int) then prt j cs (n.toNat * sz) else none
    | _, _ => none
  | _ => none
inductive LnI where
  | sl | s | no
def lnI (P : Program) (t : TypeId) : LnI := match P.underlying t with
  | some (.slice _) => .sl
  | some .string => .s
  | _ => .no
def ln (i : LnI) (H : Heap) (x : AV) : Option AV := match i, x with
  | .sl, .ro l => some (I l.length)
  | .sl, .own o ver _ n _ => if cur H o ver then some (I n) else none
  | .s, .v (.string s) => some (I (bs s).length)
  | .sl, .v (.slice none 0 0) => some (I 0)
  | _, _ => none
def cvI (P : Program) (s d : TypeId) : Option (Option IntKind) := match P.underlying s, P.underlying d with
  | some (.int _), some (.int k) => some (some k)
  | some .string, some .string => some none
  | _, _ => none
def cv (i : Option (Option IntKind)) (x : AV) : Option AV := match i, x with
  | some (some k), .v (.int _ n) => some (.v (.int k (k.wrap n)))
  | some none, .v (.string s) => some (.v (.string s))
  | _, _ => none
def al (i : Option (List AV)) (H : Heap) (d : Nat) (t : TypeId) : Option (AV × Heap) := i.map fun z => (.ptr d ((H d).ver + 1) 0, upd H d ⟨(H d).ver + 1, true, z, t⟩)
def bd (i : Option (List (Nat × Nat) × List AV)) (H : Heap) (parts : List (Nat × AV)) : Option AV := i.bind fun (l, z) => (fillA H (fun i => l[i]?) z parts).map .agg
def bS (i : Option (TypeId × Nat × List AV)) (H : Heap) (d len : Nat) (parts : List (Nat × AV)) : Option (AV × Heap) :=
  i.bind fun (e, sz, z) => (fillA H (fun i => if i < len then some (i * sz, sz) else none) (List.replicate len z).flatten parts).map fun cs => (.own d ((H d).ver + 1) 0 len sz, upd H d ⟨(H d).ver + 1, true, cs, e⟩)
def bSI (P : Program) (t : TypeId) (len : Nat) : Option (TypeId × Nat × List AV) := (eI P t).bind fun (e, sz, _, z) => if len * sz ≤ 16777216 ∧ 0 < sz then some (e, sz, z) else none
def apI (P : Program) (t : TypeId) : Option (TypeId × Nat) := (eI P t).bind fun (e, sz, by_, _) => if 0 < sz ∧ by_ ≤ 131072 then some (e, sz) else none
def ap (i : Option (TypeId × Nat)) (H : Heap) (d : Nat) (s x : AV) : Option (AV × Heap) :=
  i.bind fun (e, sz) => (srcA H sz x).bind fun (m, cells) =>
    if cells.all (leaf H) = true then
      match s with
      | .v (.slice none 0 0) => if m ≤ 1073741824 then some (.own d ((H d).ver + 1) 0 m sz, upd H d ⟨(H d).ver + 1, true, cells, e⟩) else none
      | .own o ver off k sz' => if ((cur H o ver = true ∧ sz = sz') ∧ off = 0 ∧ (H o).t = e) ∧ k + m ≤ 1073741824 then
          (if (H o).cs.length = k * sz then some (.own o (ver + 1) 0 (k + m) sz, upd H o ⟨ver + 1, true, (H o).cs ++ cells, e⟩)
           else if (k + m) * sz ≤ (H o).cs.length then some (.own o (ver + 1) 0 (k + m) sz, upd H o ⟨ver + 1, true, (H o).cs.take (k * sz) ++ cells ++ (H o).cs.drop ((k + m) * sz), e⟩)
           else none) else none
      | _ => none
    else none
def mx (f : Int → Int → Int) (x y : AV) : Option AV := match x, y with
  | .v (.int k a), .v (.int _ b) => some (.v (.int k (f a b)))
  | _, _ => none
def mkI (P : Program) (t : TypeId) : Option (TypeId × Nat × List AV) := (eI P t).bind fun (e, sz, by_, z) => if 0 < sz ∧ by_ ≤ 131072 then some (e, sz, z) else none
def mk (i : Option (TypeId × Nat × List AV)) (H : Heap) (d : Nat) (l c : AV) : Option (AV × Heap) := match l, c with
  | .v (.int _ a), .v (.int _ b) => i.bind fun (e, sz, z) => if 0 ≤ a ∧ a ≤ b ∧ b ≤ 1073741824 then
      some (.own d ((H d).ver + 1) 0 a.toNat sz, upd H d ⟨(H d).ver + 1, true, (List.replicate a.toNat z).flatten, e⟩) else none
  | _, _ => none
/-- a slice's part: of a text, or of a slice of such elements -/
inductive SlI where
  | s | sl (sz : Nat) | ar (len sz : Nat) | no
def slI (P : Program) (t : TypeId) : SlI := match P.underlying t with
  | some .string => .s
  | _ => match eI P t with
    | some (_, sz, _, _) => .sl sz
    | none => match aI P t with
      | some (len, _, sz) => .ar len sz
      | none => .no
def sl (i : SlI) (H : Heap) (x : AV) (lo hi : Option AV) : Option AV := match i, x with
  | .s, .v (.string s) => (cutS (bs s) lo hi).map fun l => .v (.string (str l))
  | .sl sz, .ro l => cutA sz H (.ro l) lo hi
  | .sl sz, .own o v off n z => cutA sz H (.own o v off n z) lo hi
  | .ar len sz, .ptr o v off => cutP H len sz (.ptr o v off) lo hi
  | _, _ => none
def nc (H : Heap) (x : AV) : Option AV := match x with
  | .ptr o ver off => if cur H o ver then some (.ptr o ver off) else none
  | .rd cs => some (.rd cs)
  | _ => none
def ex (x : AV) (i : Nat) : Option AV := match x with
  | .tuple vs => vs[i]?
  | _ => none
def mi (ok : Bool) (t : TypeId) (x : AV) : Option AV := if ok then some (.iface t x) else none
def miI (P : Program) (t : TypeId) : Bool := match P.underlying t with
  | some (.interface _) => false
  | some _ => true
  | none => false

/-! ### an operation -/
def cvX (b : Bool) (i : Option (Option IntKind)) (H : Heap) (x : AV) : Option AV := match b with
  | true => aByt H x
  | false => cv i x
def opW (S : Sys) (d : Nat) (o : Oper) (e : Env) (H : Heap) (k : AV → Heap → Prop) : Prop := match o.op with
  | .move x => k (ev e x) H
  | .assign x => k (ev e x) H
  | .pick c a b => pK (pick (ev e c) (ev e a) (ev e b)) fun x => k x H
  | .alloc t => hK (al ((tI S.P t).map (·.2.2)) H d t) k
  | .box t x => hK (aBox H d t (ev e x)) k
  | .build t ps => pK (bd (bldI S.P t) H (ps.toList.map fun p => (p.1, ev e p.2))) fun x => k x H
  | .buildSlice t n ps => hK (bS (bSI S.P t n) H d n (ps.toList.map fun p => (p.1, ev e p.2))) k
  | .load t x => pK (ld (lI S.P t) H (ev e x)) fun x => k x H
  | .store t x y => sK (st (lI S.P t) H (ev e x) (ev e y)) fun H' => k .bot H'
  | .binOp op t x y _ => pK (bn (eqI S.P op t x y) op (ev e x) (ev e y)) fun x => k x H
  | .unOp op _ x => pK (un op (ev e x)) fun x => k x H
  | .convert s t x => pK (cvX (byI S.P s t) (cvI S.P s t) H (ev e x)) fun x => k x H
  | .makeInterface t x => pK (mi (miI S.P t) t (ev e x)) fun x => k x H
  | .makeFunc fn first caps => match fn with
    | .func f => if first.size = 0 then k (.fn f (caps.toList.map (ev e))) H else False
    | _ => False
  | .makeSlice t l c => hK (mk (mkI S.P t) H d (ev e l) (ev e c)) k
  | .slice t x lo hi none => pK (sl (slI S.P t) H (ev e x) (lo.map (ev e)) (hi.map (ev e))) fun x => k x H
  | .fieldAddr t x f => pK (fa ((fI S.P t f).map (·.1)) H (ev e x)) fun x => k x H
  | .field t x f => pK (fi ((fI S.P t f).bind fun p => (lI S.P p.2.1).map fun j => (p.1, j)) (ev e x)) fun x => k x H
  | .indexAddr t x i => pK (ia (iaI S.P t) H (ev e x) (ev e i)) fun x => k x H
  | .index t x i => pK (ix (ixI S.P t) (ev e x) (ev e i)) fun x => k x H
  | .extract x i => pK (ex (ev e x) i) fun x => k x H
  | .nilCheck x => pK (nc H (ev e x)) fun x => k x H
  | .call { callee := .value f, args, argTypes := _ } => cK S (ev e f) (args.toList.map (ev e)) H k
  | .call { callee := .builtin b, args, argTypes } => match b, args.toList, argTypes.toList with
    | .len, [x], t :: _ => pK (ln (lnI S.P t) H (ev e x)) fun x => k x H
    | .append, [x, y], [t, t'] => if t = t' then hK (ap (apI S.P t) H d (ev e x) (ev e y)) k else False
    | .max, [x, y], _ => pK (mx max (ev e x) (ev e y)) fun x => k x H
    | .min, [x, y], _ => pK (mx min (ev e x) (ev e y)) fun x => k x H
    | _, _, _ => False
  | _ => False

section
variable {S : Sys} {fr : Nat} {o : Oper} {e : Env} {H : Heap} {k : AV → Heap → Prop}
theorem pK_some {r : Option AV} {k : AV → Prop} (h : pK r k) : ∃ x, r = some x ∧ k x := by
  cases r with
  | none => exact h.elim
  | some x => exact ⟨x, rfl, h⟩
theorem hK_some {r : Option (AV × Heap)} {k : AV → Heap → Prop} (h : hK r k) : ∃ x H, r = some (x, H) ∧ k x H := by
  cases r with
  | none => exact h.elim
  | some p => exact ⟨p.1, p.2, rfl, h⟩
theorem sK_some {r : Option Heap} {k : Heap → Prop} (h : sK r k) : ∃ H, r = some H ∧ k H := by
  cases r with
  | none => exact h.elim
  | some p => exact ⟨p, rfl, h⟩

theorem AOp1_of {x : AV} {H' : Heap} (hn : notCall o.op = true) (h : aop S.P o (fr + o.dst.getD 0) e H = some (x, H')) (hk : k x H') : AOp1 S fr o e H k := by
  unfold AOp1
  split
  · rename_i hop; rw [hop] at hn; cases hn
  · simp only [h]; exact hk
theorem AOp1_map {r : Option AV} {x : AV} (hn : notCall o.op = true) (h : aop S.P o (fr + o.dst.getD 0) e H = r.map (·, H)) (hr : r = some x) (hk : k x H) : AOp1 S fr o e H k :=
  AOp1_of hn (by rw [h, hr]; rfl) hk

theorem prt_eq {P : Program} {t : TypeId} {j : Bool × Nat} (h : lI P t = some j) (cs : List AV) (off : Nat) : partA P t cs off = prt j cs off := by
  obtain ⟨g, n⟩ := j
  unfold partA prt
  rw [h]
  cases g <;> rfl

theorem mapM_leafV_run {P : Program} {op : BinOp} {t : TypeId} {ox oy : Operand} {l : List PK} {xs ys : List Value} {fs : Array Field} {b : Bool} (hu : P.underlying t = some (.struct fs)) (hl : flatK P 9 t = some l) (hg : P.eqGuardType P.depth t = false) (he : eqKs l xs ys = some b) :
    (op = .eql → val? P (do eqGuard op t ox oy (.agg xs.toArray) (.agg ys.toArray); binOp op t (.agg xs.toArray) (.agg ys.toArray)) = some (.bool b)) ∧
    (op = .neq → val? P (do eqGuard op t ox oy (.agg xs.toArray) (.agg ys.toArray); binOp op t (.agg xs.toArray) (.agg ys.toArray)) = some (.bool !b)) := by
  have hG : ∀ op, (op = BinOp.eql ∨ op = BinOp.neq) → valA P (eqGuard op t ox oy (.agg xs.toArray) (.agg ys.toArray)) = some () := by
    intro op ho
    have : eqGuard op t ox oy (.agg xs.toArray) (.agg ys.toArray) = (do
      if !(← program).eqGuardType (← program).depth t then return
      if ← Op.eqGuardIn Op.maxDepth t (.agg xs.toArray) (.agg ys.toArray) then unsupported (.noEntry "binop/eql: two nil values of an interface type with methods, in a part of a struct or an array") : Sem Unit) := by
      rcases ho with rfl | rfl <;> rfl
    rw [this]
    have hp : valA P program = some P := rfl
    rw [valA_bind hp, valA_bind hp]
    simp only [hg]
    rfl
  have hw : ∀ zs : List Value, wrapV P t zs = .agg zs.toArray := fun zs => by unfold wrapV; rw [hu]
  have hE : valA P (Op.equalIn 10000 t (.agg xs.toArray) (.agg ys.toArray)) = some b := by
    rw [← hw, ← hw]
    exact equalIn_flat 10000 t l xs ys b (flatK_le hl (by decide)) he
  refine ⟨fun ho => ?_, fun ho => ?_⟩ <;> subst ho
  · rw [val?_valA, valA_bind (hG _ (.inl rfl))]
    show valA P (do let b ← Op.equalIn 10000 t (.agg xs.toArray) (.agg ys.toArray); pure (Value.bool b)) = _
    rw [valA_bind hE]
    rfl
  · rw [val?_valA, valA_bind (hG _ (.inr rfl))]
    show valA P (do let b ← Op.equalIn 10000 t (.agg xs.toArray) (.agg ys.toArray); pure (Value.bool (!b))) = _
    rw [valA_bind hE]
    rfl
theorem bn_ok {P : Program} {op : BinOp} {t : TypeId} {ox oy : Operand} {x y r : AV} (h : bn (eqI P op t ox oy) op x y = some r) : aBin P op t ox oy x y = some r := by
  unfold bn at h
  split at h
  · rename_i a b
    obtain ⟨v, h1, rfl⟩ := Option.map_eq_some_iff.1 h
    simp only [aBin, h1]
  · rename_i a b heq
    unfold eqI at heq
    split at heq
    · split at heq <;> cases heq
    · exact (flI_ne (.inr (.inl heq))).elim
    · rename_i hu
      have e1 : valA P (Op.equalIn (9999 + 1) t (.bool a) (.bool b)) = some (a == b) := by
        rw [Op.equalIn, valA_bind (valA_underlying hu)]
        rfl
      have e2 : ∀ v : Bool, (op = .eql ∧ v = (a == b) ∨ op = .neq ∧ v = !(a == b)) → aBin P op t ox oy (.v (.bool a)) (.v (.bool b)) = some (B v) := by
        intro v hv
        rcases hv with ⟨rfl, rfl⟩ | ⟨rfl, rfl⟩
        · show (val? P (do let b ← Op.equalIn (9999 + 1) t (.bool a) (.bool b); pure (.bool b))).map AV.v = _
          rw [val?_valA, valA_bind e1]
          rfl
        · show (val? P (do let b ← Op.equalIn (9999 + 1) t (.bool a) (.bool b); pure (.bool (!b)))).map AV.v = _
          rw [val?_valA, valA_bind e1]
          rfl
      split at h
      · injection h with h; subst h; exact e2 _ (.inl ⟨rfl, rfl⟩)
      · injection h with h; subst h; exact e2 _ (.inr ⟨rfl, rfl⟩)
      · cases h
    · cases heq
    · cases heq
  · rename_i tt xx heq
    unfold eqI at heq
    split at heq
    · rename_i ms hu
      simp only [aBin, hu]
      split at h
      · exact h
      · exact h
      · cases h
    · exact (flI_ne (.inr (.inr heq))).elim
    · cases heq
    · cases heq
    · cases heq
  · rename_i heq
    unfold eqI at heq
    split at heq
    · rename_i ms hu
      split at heq
      · rename_i hc
        have e1 : ∀ b : Bool, (op = .eql ∧ b = true ∨ op = .neq ∧ b = false) → aBin P op t ox oy (.v .nilIface) (.v .nilIface) = some (B b) := by
          intro b hb
          have hg : (eqGuard op t ox oy .nilIface .nilIface : Sem Unit) = pure () := by
            rcases hb with ⟨rfl, rfl⟩ | ⟨rfl, rfl⟩ <;> cases ox <;> cases oy <;> first | rfl | (simp [isC] at hc; done)
          show (val? P (do eqGuard op t ox oy .nilIface .nilIface; binOp op t .nilIface .nilIface)).map AV.v = _
          rw [hg]
          rcases hb with ⟨rfl, rfl⟩ | ⟨rfl, rfl⟩
          · show (val? P (do let b ← Op.equalIn (9999 + 1) t .nilIface .nilIface; pure (.bool b))).map AV.v = _
            rw [val?_valA, valA_bind (valA_eq_nil hu _)]
            rfl
          · show (val? P (do let b ← Op.equalIn (9999 + 1) t .nilIface .nilIface; pure (.bool (!b)))).map AV.v = _
            rw [val?_valA, valA_bind (valA_eq_nil hu _)]
            rfl
        split at h
        · injection h with h; subst h; exact e1 true (.inl ⟨rfl, rfl⟩)
        · injection h with h; subst h; exact e1 false (.inr ⟨rfl, rfl⟩)
        · cases h
      · cases heq
    · exact (flI_ne (.inr (.inr heq))).elim
    · cases heq
    · cases heq
    · cases heq
  · rename_i l heq
    have hn : ∃ fs, P.underlying t = some (.struct fs) ∧ flatK P 9 t = some l ∧ P.eqGuardType P.depth t = false := by
      unfold eqI at heq
      split at heq
      · split at heq <;> cases heq
      · rename_i fs hu
        exact ⟨fs, hu, flI_flat heq⟩
      · cases heq
      · cases heq
      · cases heq
    obtain ⟨fs, hu, hl, hg⟩ := hn
    split at h
    · rename_i xs ys hx hy
      unfold aggV at hx hy
      split at hx <;> first | cases hx | skip
      split at hy <;> first | cases hy | skip
      rename_i ca _ cb
      split at h
      · rename_i b hb
        have hr := @mapM_leafV_run P op t ox oy l xs ys fs b hu hl hg hb
        have e : aBin P op t ox oy (.agg ca) (.agg cb) = (val? P (do eqGuard op t ox oy (.agg xs.toArray) (.agg ys.toArray); binOp op t (.agg xs.toArray) (.agg ys.toArray))).map AV.v := by
          simp only [aBin, toV, hx, hy, Option.map_some]
        rw [e]
        split at h
        · rw [hr.1 rfl]; exact h
        · rw [hr.2 rfl]; exact h
        · cases h
      · cases h
    · cases h
  · cases h

theorem opW_ok (h : opW S (fr + o.dst.getD 0) o e H k) : AOp1 S fr o e H k := by
  obtain ⟨dst, op, ty, pos, after, guard⟩ := o
  unfold opW at h
  simp only at h
  split at h
  · rename_i x; exact AOp1_of rfl rfl h
  · rename_i x; exact AOp1_of rfl rfl h
  · rename_i c a b
    obtain ⟨x, hx, hk⟩ := pK_some h
    refine AOp1_of (x := x) rfl ?_ hk
    unfold pick at hx
    split at hx
    · rename_i t hc
      injection hx with hx
      subst hx
      simp only [aop, hc]
    · cases hx
  · rename_i t
    obtain ⟨x, H', hx, hk⟩ := hK_some h
    refine AOp1_of rfl ?_ hk
    rw [← hx]
    simp only [aop, aAlloc, al, Option.map_map]
    rfl
  · rename_i t x
    obtain ⟨y, H', hx, hk⟩ := hK_some h
    exact AOp1_of rfl hx hk
  · rename_i t ps
    obtain ⟨y, hx, hk⟩ := pK_some h
    exact AOp1_map rfl rfl hx hk
  · rename_i t n ps
    obtain ⟨y, H', hx, hk⟩ := hK_some h
    refine AOp1_of rfl ?_ hk
    rw [← hx]
    simp only [aop, aBuildSlice, bS, bSI]
    cases eI S.P t with
    | none => rfl
    | some p =>
      simp only [Option.bind_some]
      split
      · rfl
      · rfl
  · rename_i t x
    obtain ⟨y, hx, hk⟩ := pK_some h
    refine AOp1_map rfl rfl ?_ hk
    rw [← hx]
    rfl
  · rename_i t x y
    obtain ⟨H', hx, hk⟩ := sK_some h
    refine AOp1_of (x := .bot) rfl ?_ hk
    show (aStore S.P H t (ev e x) (ev e y)).map (fun H' => (AV.bot, H')) = _
    rw [show aStore S.P H t (ev e x) (ev e y) = st (lI S.P t) H (ev e x) (ev e y) from rfl, hx]
    rfl
  · rename_i b t x y ty'
    obtain ⟨r, hx, hk⟩ := pK_some h
    exact AOp1_map rfl rfl (bn_ok hx) hk
  · rename_i b t x
    obtain ⟨r, hx, hk⟩ := pK_some h
    exact AOp1_map rfl rfl hx hk
  · rename_i s t x
    obtain ⟨r, hx, hk⟩ := pK_some h
    refine AOp1_map rfl rfl ?_ hk
    cases hI : byI S.P s t with
    | true =>
      rw [hI] at hx
      rw [if_pos rfl]
      exact hx
    | false =>
    rw [hI] at hx
    rw [if_neg (by decide)]
    change cv _ _ = _ at hx
    unfold cv at hx
    split at hx
    · rename_i k' kk n hi hv
      unfold cvI at hi
      split at hi
      · rename_i h1 h2
        simp only [Option.some.injEq] at hi
        subst hi
        rw [hv, ← hx]
        simp only [aConv, h1, h2]
      · simp at hi
      · cases hi
    · rename_i s' hi hv
      unfold cvI at hi
      split at hi
      · simp at hi
      · rename_i h1 h2
        rw [hv, ← hx]
        simp only [aConv, h1, h2]
      · cases hi
    · cases hx
  · rename_i t x
    obtain ⟨r, hx, hk⟩ := pK_some h
    refine AOp1_of (x := r) rfl ?_ hk
    unfold mi at hx
    split at hx
    · rename_i hm
      injection hx with hx
      subst hx
      unfold miI at hm
      simp only [aop]
      split at hm
      · cases hm
      · rename_i d hd hu
        split
        · rename_i hu'; exact (hd _ (Option.some.inj (hu.symm.trans hu'))).elim
        · rfl
        · rename_i hu'; rw [hu] at hu'; cases hu'
      · cases hm
    · cases hx
  · rename_i fn first caps
    split at h
    · rename_i f
      split at h
      · rename_i hf
        refine AOp1_of rfl ?_ h
        simp only [aop, hf, if_true]
      · exact h.elim
    · exact h.elim
  · rename_i t l c
    obtain ⟨y, H', hx, hk⟩ := hK_some h
    refine AOp1_of rfl ?_ hk
    rw [← hx]
    simp only [aop, aMake, mk]
    split
    · rename_i a b h1 h2
      simp only [h1, h2, mkI]
      cases eI S.P t with
      | none => rfl
      | some p =>
        simp only [Option.bind_some]
        by_cases hc : 0 < p.2.1 ∧ p.2.2.1 ≤ 131072
        · simp only [hc, and_self, and_true, if_true, Option.bind_some]
        · rw [if_neg hc, if_neg (fun h => hc h.2)]; rfl
    · rename_i hne
      split
      · rename_i h1 h2; exact (hne _ _ _ _ h1 h2).elim
      · rfl
  · rename_i t x lo hi
    obtain ⟨r, hx, hk⟩ := pK_some h
    refine AOp1_map rfl rfl ?_ hk
    unfold sl at hx
    simp only [Option.map_none]
    have key : ∀ sz u, slI S.P t = .sl sz → (∀ s, u ≠ .v (.string s)) → aSlice S.P H t u (lo.map (ev e)) (hi.map (ev e)) none = cutA sz H u (lo.map (ev e)) (hi.map (ev e)) := by
      intro sz u hi0 hns
      unfold slI at hi0
      split at hi0
      · cases hi0
      · split at hi0
        · rename_i h3
          injection hi0 with hi0
          subst hi0
          unfold aSlice
          simp only [h3]
        · split at hi0 <;> cases hi0
    split at hx
    · rename_i s hi0 hs
      rw [hs, ← hx]
      unfold slI at hi0
      split at hi0
      · rename_i hu
        simp only [aSlice, hu]
      · split at hi0
        · cases hi0
        · split at hi0 <;> cases hi0
    · rename_i sz l hi0 hv
      rw [hv, key sz _ hi0 (fun s h => by cases h)]
      exact hx
    · rename_i sz o v off n z hi0 hv
      rw [hv, key sz _ hi0 (fun s h => by cases h)]
      exact hx
    · rename_i len sz o v off hi0 hv
      unfold slI at hi0
      split at hi0
      · cases hi0
      · split at hi0
        · cases hi0
        · rename_i h3
          split at hi0
          · rename_i h4
            injection hi0 with e1 e2
            subst e1 e2
            rw [hv, ← hx]
            unfold aSlice
            simp only [h3, h4]
          · cases hi0
    · cases hx
  · rename_i t x f
    obtain ⟨r, hx, hk⟩ := pK_some h
    refine AOp1_map rfl rfl ?_ hk
    rw [← hx]
    unfold aFieldAddr fa
    cases ev e x <;> cases fI S.P t f <;> rfl
  · rename_i t x f
    obtain ⟨r, hx, hk⟩ := pK_some h
    refine AOp1_map rfl rfl ?_ hk
    unfold fi at hx
    split at hx
    · rename_i cs off j h1 h2
      obtain ⟨⟨o', ft, s'⟩, h3, h4⟩ := Option.bind_eq_some_iff.1 h2
      obtain ⟨j', h5, h6⟩ := Option.map_eq_some_iff.1 h4
      simp only [Prod.mk.injEq] at h6
      obtain ⟨rfl, rfl⟩ := h6
      rw [h1, ← hx]
      simp only [aField, h3]
      exact prt_eq h5 _ _
    · cases hx
  · rename_i t x i
    obtain ⟨r, hx, hk⟩ := pK_some h
    refine AOp1_map rfl rfl ?_ hk
    unfold ia at hx
    split at hx
    · rename_i k' n hi
      rw [hi]
      unfold aIndexAddr
      simp only
      unfold iaI at hx
      cases hE : eI S.P t with
      | some p => simp only [hE] at hx ⊢; exact hx
      | none =>
        simp only [hE] at hx ⊢
        cases hA : aI S.P t with
        | some p => simp only [hA] at hx ⊢; exact hx
        | none => simp only [hA] at hx; cases hx
    · cases hx
  · rename_i t x i
    obtain ⟨r, hx, hk⟩ := pK_some h
    refine AOp1_map rfl rfl ?_ hk
    unfold ix at hx
    split at hx
    · rename_i k' n hi
      rw [hi]
      unfold aIndex
      simp only
      split at hx
      · rename_i s h1 h2
        rw [h2]
        unfold ixI at h1
        split at h1
        · rename_i hu
          simp only [hu]
          exact hx
        · split at h1
          · split at h1 <;> cases h1
          · cases h1
      · rename_i len sz j cs h1 h2
        rw [h2]
        unfold ixI at h1
        split at h1
        · cases h1
        · split at h1
          · rename_i hA
            split at h1
            · rename_i hL
              injection h1 with a1 a2 a3
              subst a1 a2 a3
              simp only [hA]
              rw [← hx]
              split
              · exact prt_eq hL _ _
              · rfl
            · cases h1
          · cases h1
      · cases hx
    · cases hx
  · rename_i x i
    obtain ⟨r, hx, hk⟩ := pK_some h
    refine AOp1_of (x := r) rfl ?_ hk
    unfold ex at hx
    split at hx
    · rename_i vs hv
      simp only [aop, hv, hx]
      rfl
    · cases hx
  · rename_i x
    obtain ⟨r, hx, hk⟩ := pK_some h
    refine AOp1_of (x := r) rfl ?_ hk
    unfold nc at hx
    simp only [aop]
    split at hx
    · rename_i hv
      rw [hv]
      split at hx
      · rename_i hc
        injection hx with hx
        subst hx
        simp only [hc, if_true]
      · cases hx
    · rename_i hv
      injection hx with hx
      subst hx
      rw [hv]
    · cases hx
  · rename_i f args ts
    unfold cK at h
    unfold AOp1
    simp only
    split at h
    · rename_i g caps hf
      simp only [hf]
      exact h
    · exact h.elim
  · rename_i b args ts
    split at h
    · rename_i x t ts' h1 h2
      obtain ⟨r, hx, hk⟩ := pK_some h
      refine AOp1_of (x := r) rfl ?_ hk
      have ht : ts[0]? = some t := by rw [← Array.getElem?_toList, h2]; rfl
      simp only [aop, h1, List.map_cons, List.map_nil, aBuiltin, ht, Option.bind_some]
      have : aLen S.P H t (ev e x) = some r := by
        rw [← hx]
        unfold ln lnI at hx ⊢
        unfold aLen
        generalize ev e x = u at hx ⊢
        cases hu : S.P.underlying t with
        | none => simp only [hu] at hx; cases hx
        | some d =>
          cases d with
          | slice _ =>
            simp only [hu] at hx ⊢
            split at hx
            all_goals first | rfl | contradiction | exact hx
          | string =>
            simp only [hu] at hx ⊢
            split at hx
            all_goals first | rfl | contradiction | exact hx
          | _ => simp only [hu] at hx; cases hx
      rw [this]
      rfl
    · rename_i x y t t' h1 h2
      split at h
      · rename_i hte
        subst hte
        obtain ⟨r, H', hx, hk⟩ := hK_some h
        refine AOp1_of rfl ?_ hk
        simp only [aop, h1, List.map_cons, List.map_nil, aBuiltin, h2, if_true]
        rw [← hx]
        unfold aAppend ap apI
        cases eI S.P t with
        | none => rfl
        | some p =>
          simp only [Option.bind_some]
          by_cases hc : 0 < p.2.1 ∧ p.2.2.1 ≤ 131072
          · simp only [hc, and_self, true_and, if_true, Option.bind_some]
            rfl
          · rw [if_neg hc]
            cases srcA H p.2.1 (ev e y) with
            | none => rfl
            | some q => simp only [Option.bind_some]; rw [if_neg (fun h => hc h.1)]; rfl
      · exact h.elim
    · rename_i x y _ h1
      obtain ⟨r, hx, hk⟩ := pK_some h
      refine AOp1_of (x := r) rfl ?_ hk
      unfold mx at hx
      split at hx
      · rename_i k1 a k2 b' e1 e2
        injection hx with hx
        subst hx
        simp only [aop, h1, List.map_cons, List.map_nil, e1, e2, aBuiltin]
      · cases hx
    · rename_i x y _ h1
      obtain ⟨r, hx, hk⟩ := pK_some h
      refine AOp1_of (x := r) rfl ?_ hk
      unfold mx at hx
      split at hx
      · rename_i k1 a k2 b' e1 e2
        injection hx with hx
        subst hx
        simp only [aop, h1, List.map_cons, List.map_nil, e1, e2, aBuiltin]
      · cases hx
    · exact h.elim
  · exact h.elim
end
end Go.Abs
