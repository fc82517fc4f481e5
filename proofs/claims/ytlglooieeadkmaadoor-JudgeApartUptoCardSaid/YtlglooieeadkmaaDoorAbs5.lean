/- The rest of the operations: append as an operation, numbers, texts, tuples, interfaces; all of them in one function. No program text. -/
import Derived.Test.YtlglooieeadkmaaDoorAbs4
import Derived.Lib.Bytealg
set_option linter.unusedVariables false
set_option linter.unusedSimpArgs false
namespace Go.Abs
open Go Go.RowKit
section
variable {S : Sys} {O : Origin} {H : Heap} {α : Nat → Option Nat} {w : World}

theorem aAppend_ok (hO : OWf S O) (hB : Base O H α w) {d : Nat} {t ty : TypeId} {s x y : AV} {u v : Value} {H' : Heap} (hs : Conc w (okA O w H α) H α s u) (hx : Conc w (okA O w H α) H α x v) (he : aAppend S.P H d t s x = some (y, H')) :
    Steps S O H α w (Builtin.append_ #[t, t] ty #[u, v]) y H' := by
  unfold aAppend at he
  obtain ⟨⟨e, sz, by_, z⟩, hE, he1⟩ := Option.bind_eq_some_iff.1 he
  obtain ⟨⟨m, cells⟩, hsrc, he2⟩ := Option.bind_eq_some_iff.1 he1
  clear he he1
  simp only at he2
  split at he2
  · rename_i hc
    obtain ⟨⟨hsz, hby⟩, hleaf⟩ := hc
    obtain ⟨c1, c2⟩ := append_core (ty := ty) hO hB hE hsz hby hx hsrc hleaf
    split at he2
    · split at he2
      · rename_i hm
        injection he2 with he2
        simp only [Prod.mk.injEq] at he2
        obtain ⟨rfl, rfl⟩ := he2
        rw [hs.v_inv]
        exact c1 hm d
      · cases he2
    · rename_i o ver off k sz'
      split at he2
      · rename_i hc
        obtain ⟨⟨⟨hcur, rfl⟩, rfl, ht⟩, hkm⟩ := hc
        obtain ⟨h1, h2⟩ := cur_iff.1 hcur
        subst h1
        have hov := hs.own_inv.2 rfl h2
        have hob := hB.obj o h2
        unfold OwnV at hov
        unfold RelObj at hob
        cases hα : α o with
        | none =>
          rw [hα] at hov hob
          obtain ⟨rfl, _, rfl⟩ := hov
          replace hob : (H o).cs = [] := hob
          have := c1 (by omega) o
          simp only [hob, List.length_nil, Nat.zero_mul, if_true, List.nil_append, Nat.zero_add] at he2
          injection he2 with he2
          simp only [Prod.mk.injEq] at he2
          obtain ⟨rfl, rfl⟩ := he2
          exact this
        | some b =>
          rw [hα] at hov hob
          obtain ⟨c, hkc, rfl, hL, cells', tt, fr, hg, hfit⟩ := hov
          obtain ⟨cur, hg2, hle, hcc⟩ := hob
          rw [ht] at hg2
          rw [hg2] at hg
          injection hg with hg
          injection hg with e1 e2 e3
          subst e1
          by_cases hend : (H o).cs.length = k * sz
          · rw [if_pos hend] at he2
            injection he2 with he2
            simp only [Prod.mk.injEq] at he2
            obtain ⟨rfl, rfl⟩ := he2
            have := c2 o b k c cur h2 hα ht hg2 hkc (by omega) (by omega) (by omega) hkm (.inl hend)
            have hd : (H o).cs.drop ((k + m) * sz) = [] := List.drop_eq_nil_of_le (by rw [hend, Nat.add_mul]; omega)
            rwa [hd, List.take_of_length_le (by omega), List.append_nil] at this
          · rw [if_neg hend] at he2
            split at he2
            · rename_i hmid
              injection he2 with he2
              simp only [Prod.mk.injEq] at he2
              obtain ⟨rfl, rfl⟩ := he2
              exact c2 o b k c cur h2 hα ht hg2 hkc (by omega) (by omega) (by rw [Nat.add_mul] at hmid; omega) hkm (.inr hmid)
            · cases he2
      · cases he2
    · cases he2
  · cases he2

/-- clear of a row -/
def aClear (P : Program) (H : Heap) (t : TypeId) (x : AV) : Option Heap :=
  match x, eI P t with
  | .ro [], some _ => some H
  | .own o ver off n sz', some (_, sz, _, z) => if (cur H o ver = true ∧ sz = sz' ∧ 0 < sz) ∧ off + n * sz ≤ (H o).cs.length ∧ z.all (leaf H) = true then
      some (upd H o ⟨ver, true, (H o).cs.take off ++ (List.replicate n z).flatten ++ (H o).cs.drop (off + n * sz), (H o).t⟩) else none
  | _, _ => none

/-! ### numbers and texts -/
def bs (s : ByteArray) : List UInt8 := s.data.toList
def str (l : List UInt8) : ByteArray := ⟨l.toArray⟩
@[simp] theorem bs_str (l : List UInt8) : bs (str l) = l := rfl
@[simp] theorem str_bs (s : ByteArray) : str (bs s) = s := by cases s; simp [str, bs]
theorem size_bs (s : ByteArray) : s.size = (bs s).length := by cases s; simp [bs, ByteArray.size]
@[simp] theorem size_str (l : List UInt8) : (str l).size = l.length := by simp [str, ByteArray.size]
theorem toList_bs (s : ByteArray) : s.toList = bs s := Lib.toList_data s

def sBin (op : BinOp) (x y : Value) : Option Value :=
  match x, y with
  | .int k a, .int k' b =>
    match op with
    | .shl => if b < 0 then none else some (.int k (k.wrap (a * 2 ^ (min b.toNat k.bits))))
    | .shr => if b < 0 then none else some (.int k (a.fdiv (2 ^ (min b.toNat k.bits))))
    | _ => if k ≠ k' then none else match op with
      | .add => some (.int k (k.wrap (a + b)))
      | .sub => some (.int k (k.wrap (a - b)))
      | .mul => some (.int k (k.wrap (a * b)))
      | .quo => if b = 0 then none else some (.int k (k.wrap (a.tdiv b)))
      | .rem => if b = 0 then none else some (.int k (a.tmod b))
      | .and => some (.int k (k.wrap ((BitVec.ofInt k.bits a &&& BitVec.ofInt k.bits b).toNat)))
      | .or => some (.int k (k.wrap ((BitVec.ofInt k.bits a ||| BitVec.ofInt k.bits b).toNat)))
      | .xor => some (.int k (k.wrap ((BitVec.ofInt k.bits a ^^^ BitVec.ofInt k.bits b).toNat)))
      | .eql => some (.bool (a == b))
      | .neq => some (.bool (a != b))
      | .lss => some (.bool (decide (a < b)))
      | .leq => some (.bool (decide (a ≤ b)))
      | .gtr => some (.bool (decide (a > b)))
      | .geq => some (.bool (decide (a ≥ b)))
      | _ => none
  | .string a, .string b =>
    match op with
    | .add => if (bs a).length + (bs b).length ≤ 1073741824 then some (.string (str (bs a ++ bs b))) else none
    | .eql => some (.bool (bs a == bs b))
    | .neq => some (.bool (!(bs a == bs b)))
    | .lss => some (.bool (Op.bytesLess (bs a) (bs b)))
    | .geq => some (.bool (!Op.bytesLess (bs a) (bs b)))
    | .leq => some (.bool (Op.bytesLess (bs a) (bs b) || bs a == bs b))
    | .gtr => some (.bool (!(Op.bytesLess (bs a) (bs b) || bs a == bs b)))
    | _ => none
  | _, _ => none

theorem str_append (a b : ByteArray) : a ++ b = str (bs a ++ bs b) := by
  rw [← str_bs (a ++ b)]
  simp [bs, ByteArray.data_append]

theorem sBin_ok {op : BinOp} {x y r : Value} (h : sBin op x y = some r) (t : TypeId) (ox oy : Operand) (P : Program) (w : World) : (do eqGuard op t ox oy x y; binOp op t x y : Sem Value).run P w = .ok r w := by
  unfold sBin at h
  split at h
  · rename_i k a k' b
    have hg : (eqGuard op t ox oy (.int k a) (.int k' b)).run P w = .ok () w := by cases op <;> simp [eqGuard]
    simp only [Sem.run_bind, hg, Result.andThen_ok]
    cases op <;> simp only at h
    case shl => split at h; cases h; rename_i hb; injection h with h; subst h; simp [binOp, Op.shift, hb]
    case shr => split at h; cases h; rename_i hb; injection h with h; subst h; simp [binOp, Op.shift, hb]
    all_goals
      split at h
      · cases h
      · rename_i hk
        simp only [ne_eq, Decidable.not_not] at hk
        subst hk
        first
          | (injection h with h; subst h; simp [binOp, Op.intArith, Op.intCmp, Op.intBits]; done)
          | (split at h; cases h; rename_i hb; injection h with h; subst h; simp [binOp, Op.intDiv, hb]; done)
          | cases h
  · rename_i a b
    have hg : (eqGuard op t ox oy (.string a) (.string b)).run P w = .ok () w := by cases op <;> simp [eqGuard]
    simp only [Sem.run_bind, hg, Result.andThen_ok]
    cases op <;> simp only at h
    case add =>
      split at h
      · rename_i hb
        injection h with h
        subst h
        rw [← size_bs, ← size_bs] at hb
        have : ¬ ((9223372036854775807 : Int) < (a.size : Int) + (b.size : Int)) := by omega
        have hmax : IntKind.i64.max = 9223372036854775807 := rfl
        simp [binOp, Op.stringOp, hmax, this, str_append]
      · cases h
    all_goals
      first
        | (injection h with h; subst h; simp [binOp, Op.stringOp, toList_bs]; done)
        | cases h
  · cases h

/-- values without an address -/
def leafV : AV → Option Value
  | .v x => some x
  | _ => none
def toV : AV → Option Value
  | .v x => some x
  | .agg cs => (cs.mapM leafV).map fun l => .agg l.toArray
  | _ => none

theorem mapM_v {w : World} {ok : Nat → Prop} {H : Heap} {α : Nat → Option Nat} : ∀ (cs : List AV) (l vs : List Value), cs.mapM leafV = some l → cs.length = vs.length →
    (∀ (j : Nat) (x : AV) (v : Value), cs[j]? = some x → vs[j]? = some v → Conc w ok H α x v) → l = vs
  | [], l, vs, h, hl, _ => by
    simp at h hl
    subst h
    exact (List.eq_nil_of_length_eq_zero hl.symm).symm
  | c :: cs, l, vs, h, hl, hr => by
    cases vs with
    | nil => simp at hl
    | cons v vs =>
      simp only [List.mapM_cons, Option.bind_eq_bind, Option.bind_eq_some_iff, Option.pure_def, Option.some.injEq] at h
      obtain ⟨x, hx, l', hl', rfl⟩ := h
      have h0 := hr 0 c v rfl rfl
      unfold leafV at hx
      split at hx
      · injection hx with hx
        subst hx
        rw [h0.v_inv, mapM_v cs l' vs hl' (by simpa using hl) (fun j x v h1 h2 => hr (j + 1) x v (by simpa using h1) (by simpa using h2))]
      · cases hx
theorem toV_spec {ok : Nat → Prop} {x : AV} {v u : Value} (h : Conc w ok H α x v) (he : toV x = some u) : v = u := by
  unfold toV at he
  split at he
  · injection he with he; subst he; exact h.v_inv
  · obtain ⟨l, h1, rfl⟩ := Option.map_eq_some_iff.1 he
    obtain ⟨vs, rfl, hl, hr⟩ := h.agg_inv
    rw [mapM_v _ l vs.toList h1 (by simpa using hl) (fun j x v h2 h3 => hr j x v h2 (by rwa [Array.getElem?_toList] at h3))]
  · cases he

/-- operations on what has no address whose run is known at this program (structs held against each other, and what is not in 'sBin') -/
def val? (P : Program) : Sem Value → Option Value
  | .pure a => some a
  | .program k => val? P (k P)
  | .mark _ k => val? P k
  | _ => none
theorem val?_ok {P : Program} {s : Sem Value} {v : Value} (h : val? P s = some v) (w : World) : s.run P w = .ok v w := by
  induction s with
  | pure a => simp only [val?, Option.some.injEq] at h; subst h; rfl
  | program k ih => exact ih P h
  | mark m k ih => exact ih h
  | _ => cases h

theorem equalIn_iface_nil {P : Program} {w : World} {t tt : TypeId} {ms : Array (String × TypeId)} {u : Value} (d : Nat) (hu : P.underlying t = some (.interface ms)) : (Op.equalIn (d + 1) t (.iface tt u) .nilIface).run P w = .ok false w := by
  simp [Op.equalIn, run_underlying hu]
theorem equal_iface_nil {P : Program} {w : World} {t tt : TypeId} {ms : Array (String × TypeId)} {u : Value} (hu : P.underlying t = some (.interface ms)) : (Op.equal t (.iface tt u) .nilIface).run P w = .ok false w := equalIn_iface_nil 9999 hu
def aBin (P : Program) (op : BinOp) (t : TypeId) (ox oy : Operand) (x y : AV) : Option AV :=
  match x, y with
  | .v a, .v b => match sBin op a b with
    | some r => some (.v r)
    | none => (val? P (do eqGuard op t ox oy a b; binOp op t a b)).map .v
  | .iface _ _, .v .nilIface => match P.underlying t, op with
    | some (.interface _), .eql => some (.v (.bool false))
    | some (.interface _), .neq => some (.v (.bool true))
    | _, _ => none
  | x, y => match toV x, toV y with
    | some a, some b => (val? P (do eqGuard op t ox oy a b; binOp op t a b)).map .v
    | _, _ => none
theorem aBin_ok (hB : Base O H α w) {op : BinOp} {t : TypeId} {ox oy : Operand} {x y r : AV} {u v : Value} (hx : Conc w (okA O w H α) H α x u) (hy : Conc w (okA O w H α) H α y v) (he : aBin S.P op t ox oy x y = some r) :
    Steps S O H α w (do eqGuard op t ox oy u v; binOp op t u v) r H := by
  unfold aBin at he
  split at he
  · rename_i a b
    rw [hx.v_inv, hy.v_inv]
    split at he
    · rename_i r' hr
      injection he with he
      subst he
      exact Steps.same hB (sBin_ok hr t ox oy S.P w) (.d _ _ (.v _))
    · obtain ⟨r', h1, rfl⟩ := Option.map_eq_some_iff.1 he
      exact Steps.same hB (val?_ok h1 w) (.d _ _ (.v _))
  · rename_i tt xx
    obtain ⟨u', rfl, hu'⟩ := hx.iface_inv
    have := hy.v_inv
    subst this
    split at he
    · rename_i ms hu
      injection he with he
      subst he
      refine Steps.same hB (v := .bool false) ?_ (.d _ _ (.v _))
      simp only [eqGuard, binOp, Sem.run_bind, Sem.run_pure, Sem.run_ite, Result.andThen_ok, equal_iface_nil hu]
      rfl
    · rename_i ms hu
      injection he with he
      subst he
      refine Steps.same hB (v := .bool true) ?_ (.d _ _ (.v _))
      simp only [eqGuard, binOp, Sem.run_bind, Sem.run_pure, Sem.run_ite, Result.andThen_ok, equal_iface_nil hu]
      rfl
    · cases he
  · split at he
    · rename_i a b h1 h2
      obtain ⟨r', h3, rfl⟩ := Option.map_eq_some_iff.1 he
      rw [toV_spec hx h1, toV_spec hy h2]
      exact Steps.same hB (val?_ok h3 w) (.d _ _ (.v _))
    · cases he

def sUn (op : UnOp) (x : Value) : Option Value :=
  match op, x with
  | .not, .bool b => some (.bool (!b))
  | .neg, .int k n => some (.int k (k.wrap (0 - n)))
  | _, _ => none
def aUn (op : UnOp) : AV → Option AV
  | .v x => (sUn op x).map .v
  | _ => none
theorem aUn_ok (hB : Base O H α w) {op : UnOp} {x r : AV} {u : Value} (hx : Conc w (okA O w H α) H α x u) (he : aUn op x = some r) : Steps S O H α w (Op.unary op u) r H := by
  unfold aUn at he
  split at he
  · rename_i a
    obtain ⟨r', h1, rfl⟩ := Option.map_eq_some_iff.1 he
    rw [hx.v_inv]
    refine Steps.same hB (v := r') ?_ (.d _ _ (.v _))
    unfold sUn at h1
    split at h1
    · injection h1 with h1; subst h1; simp [Op.unary]
    · injection h1 with h1; subst h1; simp [Op.unary, Op.intArith]
    · cases h1
  · cases he

/-- conversions of numbers and texts -/
def aConv (P : Program) (s d : TypeId) : AV → Option AV
  | .v (.int _ n) => match P.underlying s, P.underlying d with
    | some (.int _), some (.int k) => some (.v (.int k (k.wrap n)))
    | _, _ => none
  | .v (.string x) => match P.underlying s, P.underlying d with
    | some .string, some .string => some (.v (.string x))
    | _, _ => none
  | _ => none
theorem aConv_ok (hB : Base O H α w) {s d : TypeId} {x r : AV} {u : Value} (hx : Conc w (okA O w H α) H α x u) (he : aConv S.P s d x = some r) : Steps S O H α w (convert s d u) r H := by
  unfold aConv at he
  split at he
  · rename_i k n
    rw [hx.v_inv]
    split at he
    · rename_i k1 k2 h1 h2
      injection he with he
      subst he
      exact Steps.same hB (by simp [convert, run_underlying h1, run_underlying h2, Conv.intToInt]) (.d _ _ (.v _))
    · cases he
  · rename_i x
    rw [hx.v_inv]
    split at he
    · rename_i h1 h2
      injection he with he
      subst he
      exact Steps.same hB (by simp [convert, run_underlying h1, run_underlying h2]) (.d _ _ (.v _))
    · cases he
  · cases he

/-- a byte of a text; an element of an array -/
def aIndex (P : Program) (t : TypeId) (x i : AV) : Option AV :=
  match i with
  | .v (.int _ n) =>
    match x with
    | .v (.string s) => match P.underlying t with
      | some .string => if 0 ≤ n ∧ n < ((bs s).length : Int) then some (.v (.int .u8 (((bs s)[n.toNat]?).getD 0).toNat)) else none
      | _ => none
    | .agg cs => match aI P t with
      | some (len, e, sz) => if 0 ≤ n ∧ n < (len : Int) then partA P e cs (n.toNat * sz) else none
      | none => none
    | _ => none
  | _ => none
theorem aIndex_ok (hB : Base O H α w) {t : TypeId} {x i y : AV} {v u : Value} (h : Conc w (okA O w H α) H α x v) (g : Conc w (okA O w H α) H α i u) (he : aIndex S.P t x i = some y) :
    Steps S O H α w (Instr.index t v u) y H := by
  unfold aIndex at he
  split at he
  · rename_i k n
    rw [g.v_inv]
    split at he
    · rename_i s
      rw [h.v_inv]
      split at he
      · rename_i hu
        split at he
        · rename_i hn
          injection he with he
          subst he
          have hlt : n.toNat < s.size := by rw [size_bs]; omega
          have hget : s[n.toNat]? = some s[n.toNat] := by simp [hlt]
          refine Steps.same hB ?_ (.d _ _ (.v _))
          have hb : (bs s)[n.toNat]? = some s[n.toNat] := by
            unfold bs
            rw [Array.getElem?_toList]
            exact Array.getElem?_eq_getElem hlt
          simp [Instr.index, asIntOf, run_underlying hu, hn.1, hget, hb]
        · cases he
      · cases he
    · rename_i cs
      split at he
      · rename_i len e sz hA
        split at he
        · rename_i hn
          obtain ⟨vs, rfl, hl, hr⟩ := h.agg_inv
          obtain ⟨r, h1, h2⟩ := partA_ok hl hr he
          obtain ⟨hu, inf, i1, i2⟩ := aI_inv hA
          exact Steps.same hB (by simp [Instr.index, asIntOf, run_underlying hu, hn.1, hn.2, sizeOf, run_typeInfo w i1, i2, h1]) h2
        · cases he
      · cases he
    · cases he
  · cases he

def cutS (s : List UInt8) (lo hi : Option AV) : Option (List UInt8) :=
  (bI lo 0).bind fun a => (bI hi s.length).bind fun b => if 0 ≤ a ∧ a ≤ b ∧ b ≤ (s.length : Int) then some ((s.take b.toNat).drop a.toNat) else none

theorem extract_bs (s : ByteArray) (a b : Nat) : s.extract a b = str (((bs s).take b).drop a) := by
  rw [← str_bs (s.extract a b)]
  congr 1
  simp [bs, ByteArray.data_extract, Array.toList_extract, List.extract, List.drop_take]

/-- a row out of an array that is a whole object -/
def cutP (H : Heap) (len sz : Nat) (x : AV) (lo hi : Option AV) : Option AV := match x with
  | .ptr o ver off => (bI lo 0).bind fun a => (bI hi len).bind fun b => if (cur H o ver = true ∧ 0 < sz ∧ off + len * sz = (H o).cs.length) ∧ 0 ≤ a ∧ a ≤ b ∧ b ≤ (len : Int) ∧ a < (len : Int) then
      some (.own o ver (off + a.toNat * sz) (b.toNat - a.toNat) sz) else none
  | _ => none
theorem cutP_ok (hB : Base O H α w) {t e : TypeId} {len sz : Nat} (hA : aI S.P t = some (len, e, sz)) {x y : AV} {v : Value} {lo hi : Option AV} {ul uh : Option Value}
    (h : Conc w (okA O w H α) H α x v) (hl : ∀ y, lo = some y → ∃ v, ul = some v ∧ Conc w (okA O w H α) H α y v) (hl0 : lo = none → ul = none)
    (hh : ∀ y, hi = some y → ∃ v, uh = some v ∧ Conc w (okA O w H α) H α y v) (hh0 : hi = none → uh = none) (he : cutP H len sz x lo hi = some y) :
    Steps S O H α w (Instr.sliceAt t v ul uh none) y H := by
  obtain ⟨hu, inf, i1, i2⟩ := aI_inv hA
  unfold cutP at he
  split at he
  · rename_i o ver off
    obtain ⟨a, ha, he⟩ := Option.bind_eq_some_iff.1 he
    obtain ⟨b, hb, he⟩ := Option.bind_eq_some_iff.1 he
    split at he
    · rename_i hc
      obtain ⟨⟨hcur, hsz, hlen⟩, h0, h1, h2, h3⟩ := hc
      injection he with he
      subst he
      obtain ⟨c1, c2⟩ := cur_iff.1 hcur
      obtain ⟨bk, hα, rfl⟩ := h.ptr_inv.2 c1.symm c2
      have sa := bI_spec hl hl0 ha
      have sb := bI_spec hh hh0 hb
      have hro := hB.obj o c2
      unfold RelObj at hro
      rw [hα] at hro
      obtain ⟨cells, g1, g2, _⟩ := hro
      have e1 : (len - a.toNat) * sz = len * sz - a.toNat * sz := Nat.sub_mul _ _ _
      have e2 : a.toNat * sz ≤ len * sz := Nat.mul_le_mul_right _ (by omega)
      refine Steps.same hB (v := .slice (some ⟨bk, off + a.toNat * sz, none⟩) (b.toNat - a.toNat) (len - a.toNat)) ?_ (.own _ _ _ _ _ _ (by omega) fun _ _ => ?_)
      · have hb : b = ((b.toNat : Nat) : Int) := by omega
        have hbb : a ≤ ((b.toNat : Nat) : Int) := by omega
        have h30 : 0 ≤ b := by omega
        have hne : ¬ len = a.toNat := by omega
        rcases sa with ⟨rfl, rfl⟩ | ⟨k, rfl⟩ <;> rcases sb with ⟨rfl, rfl⟩ | ⟨k', rfl⟩ <;>
          simp [Instr.sliceAt, Instr.sliceBounds, Instr.sliceBound, asIntOf, run_underlying hu, sizeOf, run_typeInfo w i1, i2, Instr.sureAddr, h0, h1, h2, hbb, h30, hne, Addr.add_lit]
        all_goals (try omega)
      · unfold OwnV
        rw [hα]
        exact ⟨len - a.toNat, by omega, rfl, by omega, cells, _, _, g1, by omega⟩
    · cases he
  · cases he
def aSlice (P : Program) (H : Heap) (t : TypeId) (x : AV) (lo hi mx : Option AV) : Option AV :=
  match mx with
  | none => match x with
    | .v (.string s) => match P.underlying t with
      | some .string => (cutS (bs s) lo hi).map fun l => .v (.string (str l))
      | _ => none
    | x => match eI P t with
      | some (_, sz, _, _) => cutA sz H x lo hi
      | none => match aI P t with
        | some (len, _, sz) => cutP H len sz x lo hi
        | none => none
  | some _ => none
theorem aSlice_ok (hB : Base O H α w) {t : TypeId} {x y : AV} {v : Value} {lo hi mx : Option AV} {ul uh um : Option Value}
    (h : Conc w (okA O w H α) H α x v) (hl : ∀ y, lo = some y → ∃ v, ul = some v ∧ Conc w (okA O w H α) H α y v) (hl0 : lo = none → ul = none)
    (hh : ∀ y, hi = some y → ∃ v, uh = some v ∧ Conc w (okA O w H α) H α y v) (hh0 : hi = none → uh = none) (hm0 : mx = none → um = none) (he : aSlice S.P H t x lo hi mx = some y) :
    Steps S O H α w (Instr.sliceAt t v ul uh um) y H := by
  unfold aSlice at he
  split at he
  · rw [hm0 rfl]
    split at he
    · rename_i s
      rw [h.v_inv]
      split at he
      · rename_i hu
        obtain ⟨l, h1, rfl⟩ := Option.map_eq_some_iff.1 he
        unfold cutS at h1
        obtain ⟨a, ha, h2⟩ := Option.bind_eq_some_iff.1 h1
        obtain ⟨b, hb, h3⟩ := Option.bind_eq_some_iff.1 h2
        split at h3
        · rename_i hc
          injection h3 with h3
          subst h3
          have sa := bI_spec hl hl0 ha
          have sb := bI_spec hh hh0 hb
          refine Steps.same hB ?_ (.d _ _ (.v _))
          rw [← extract_bs]
          have hb' : b = ((b.toNat : Nat) : Int) := by omega
          have hbb : a ≤ ((b.toNat : Nat) : Int) := by omega
          have h30 : 0 ≤ b := by omega
          have hsz : b ≤ (s.size : Int) := by rw [size_bs]; exact hc.2.2
          have hsz2 : a ≤ (s.size : Int) := by omega
          have hlen : ((bs s).length : Int) = (s.size : Int) := by rw [size_bs]
          have hmx : max b 0 = b := by omega
          have hnl : ¬ b < a := by omega
          have hall : s.extract 0 s.size = s := by rw [extract_bs, size_bs]; simp
          rcases sa with ⟨rfl, rfl⟩ | ⟨k, rfl⟩ <;> rcases sb with ⟨rfl, hbe⟩ | ⟨k', rfl⟩ <;>
            simp [Instr.sliceAt, Instr.slice, Instr.sliceBounds, Instr.sliceBound, asIntOf, run_underlying hu, hc.1, hbb, h30, hsz, hsz2, hmx, hnl]
          all_goals (try (have hbs : b.toNat = s.size := by omega); rw [hbs]; first | done | exact hall.symm | rfl)
        · cases h3
      · cases he
    · split at he
      · rename_i hE
        exact cutA_ok hB hE h hl hl0 hh hh0 he
      · split at he
        · rename_i hA
          exact cutP_ok hB hA h hl hl0 hh hh0 he
        · cases he
  · cases he
end
end Go.Abs
