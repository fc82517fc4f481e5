/- The steps of a walk in continuation form. No program text. -/
import Derived.Test.YtlglooieeadkmaaDoorCps4
import Derived.IntWalk
set_option linter.unusedVariables false
set_option linter.unusedSimpArgs false
namespace Go.Abs
open Go Go.RowKit
section
variable {k : AV → Prop} {kh : AV → Heap → Prop} {H : Heap}
theorem pK_i {r : Option AV} {x : AV} (h : r = some x) (hk : k x) : pK r k := by rw [h]; exact hk
theorem hK_i {r : Option (AV × Heap)} {x : AV} {H' : Heap} (h : r = some (x, H')) (hk : kh x H') : hK r kh := by rw [h]; exact hk
theorem sK_i {r : Option Heap} {H' : Heap} {k : Heap → Prop} (h : r = some H') (hk : k H') : sK r k := by rw [h]; exact hk
/-! ### ways -/
theorem wCt {X Y : Prop} (h : X) : condK (B true) X Y := h
theorem wCf {X Y : Prop} (h : Y) : condK (B false) X Y := h
theorem wC {b : Bool} {X Y : Prop} (h1 : b = true → X) (h2 : b = false → Y) : condK (B b) X Y := by cases b <;> simp_all [condK]
theorem wGt {X : (AV → Heap → Prop) → Prop} (h : X kh) : grdK (B true) true H X kh := h
theorem wGf {X : (AV → Heap → Prop) → Prop} (h : X kh) : grdK (B false) false H X kh := h
theorem wGn {X : (AV → Heap → Prop) → Prop} (h : kh U H) : grdK (B true) false H X kh := h
theorem wGm {X : (AV → Heap → Prop) → Prop} (h : kh U H) : grdK (B false) true H X kh := h
theorem wGu {w : Bool} {X : (AV → Heap → Prop) → Prop} (h : kh U H) : grdK U w H X kh := h
/-! ### numbers -/
variable {i i' : IntKind} {a b : Int} {l m : List UInt8}
theorem sAdd (h : k (.v (.int i (i.wrap (a + b))))) : pK (bn .prim .add (.v (.int i a)) (.v (.int i b))) k := by cases i <;> exact h
theorem sSub (h : k (.v (.int i (i.wrap (a - b))))) : pK (bn .prim .sub (.v (.int i a)) (.v (.int i b))) k := by cases i <;> exact h
theorem sMul (h : k (.v (.int i (i.wrap (a * b))))) : pK (bn .prim .mul (.v (.int i a)) (.v (.int i b))) k := by cases i <;> exact h
/-- where the outcome fits -/
theorem sAdd' (hl : -9223372036854775808 ≤ a + b ∧ a + b ≤ 9223372036854775807) (h : k (I (a + b))) : pK (bn .prim .add (I a) (I b)) k := sAdd (by rw [IntWalk.i64_in _ hl]; exact h)
theorem sSub' (hl : -9223372036854775808 ≤ a - b ∧ a - b ≤ 9223372036854775807) (h : k (I (a - b))) : pK (bn .prim .sub (I a) (I b)) k := sSub (by rw [IntWalk.i64_in _ hl]; exact h)
theorem sMul' (hl : -9223372036854775808 ≤ a * b ∧ a * b ≤ 9223372036854775807) (h : k (I (a * b))) : pK (bn .prim .mul (I a) (I b)) k := sMul (by rw [IntWalk.i64_in _ hl]; exact h)
theorem sQuo (hb : b ≠ 0) (h : k (.v (.int i (i.wrap (a.tdiv b))))) : pK (bn .prim .quo (.v (.int i a)) (.v (.int i b))) k := pK_i (by cases i <;> (unfold bn sBin; simp only [ne_eq, not_true_eq_false, if_false, if_neg hb]; rfl)) h
theorem sRem (hb : b ≠ 0) (h : k (.v (.int i (a.tmod b)))) : pK (bn .prim .rem (.v (.int i a)) (.v (.int i b))) k := pK_i (by cases i <;> (unfold bn sBin; simp only [ne_eq, not_true_eq_false, if_false, if_neg hb]; rfl)) h
theorem bool2 {c : Bool} {r : Option AV} (hr : r = some (B c)) (h1 : c = true → k (B true)) (h2 : c = false → k (B false)) : pK r k := by rw [hr]; cases c <;> simp_all [pK]
theorem sEql (h1 : a = b → k (B true)) (h2 : a ≠ b → k (B false)) : pK (bn .prim .eql (.v (.int i a)) (.v (.int i b))) k := bool2 (c := a == b) (by cases i <;> rfl) (fun h => h1 (by simpa using h)) (fun h => h2 (by simpa using h))
theorem sNeq (h1 : a ≠ b → k (B true)) (h2 : a = b → k (B false)) : pK (bn .prim .neq (.v (.int i a)) (.v (.int i b))) k := bool2 (c := a != b) (by cases i <;> rfl) (fun h => h1 (by simpa using h)) (fun h => h2 (by simpa using h))
theorem sLss (h1 : a < b → k (B true)) (h2 : b ≤ a → k (B false)) : pK (bn .prim .lss (.v (.int i a)) (.v (.int i b))) k := bool2 (c := decide (a < b)) (by cases i <;> rfl) (fun h => h1 (by simpa using h)) (fun h => h2 (by simpa using h))
theorem sLeq (h1 : a ≤ b → k (B true)) (h2 : b < a → k (B false)) : pK (bn .prim .leq (.v (.int i a)) (.v (.int i b))) k := bool2 (c := decide (a ≤ b)) (by cases i <;> rfl) (fun h => h1 (by simpa using h)) (fun h => h2 (by simpa using h))
theorem sGtr (h1 : b < a → k (B true)) (h2 : a ≤ b → k (B false)) : pK (bn .prim .gtr (.v (.int i a)) (.v (.int i b))) k := bool2 (c := decide (a > b)) (by cases i <;> rfl) (fun h => h1 (by simpa using h)) (fun h => h2 (by simpa using h))
theorem sGeq (h1 : b ≤ a → k (B true)) (h2 : a < b → k (B false)) : pK (bn .prim .geq (.v (.int i a)) (.v (.int i b))) k := bool2 (c := decide (a ≥ b)) (by cases i <;> rfl) (fun h => h1 (by simpa using h)) (fun h => h2 (by simpa using h))
theorem sMax (h : k (.v (.int i (max a b)))) : pK (mx max (.v (.int i a)) (.v (.int i' b))) k := h
theorem sMin (h : k (.v (.int i (min a b)))) : pK (mx min (.v (.int i a)) (.v (.int i' b))) k := h
theorem sCv (h : k (.v (.int i (i.wrap a)))) : pK (cv (some (some i)) (.v (.int i' a))) k := h
theorem sCvI (hl : -9223372036854775808 ≤ a ∧ a ≤ 9223372036854775807) (h : k (I a)) : pK (cv (some (some .i64)) (.v (.int i' a))) k := sCv (by rw [IntWalk.i64_in _ hl]; exact h)
/-! ### texts -/
theorem sEqS (h1 : l = m → k (B true)) (h2 : l ≠ m → k (B false)) : pK (bn .prim .eql (T l) (T m)) k := bool2 (c := l == m) rfl (fun h => h1 (by simpa using h)) (fun h => h2 (by simpa using h))
theorem sNeS (h1 : l ≠ m → k (B true)) (h2 : l = m → k (B false)) : pK (bn .prim .neq (T l) (T m)) k := bool2 (c := !(l == m)) rfl (fun h => h1 (by simpa using h)) (fun h => h2 (by simpa using h))
theorem sLtS (h1 : Op.bytesLess l m = true → k (B true)) (h2 : Op.bytesLess l m = false → k (B false)) : pK (bn .prim .lss (T l) (T m)) k := bool2 (c := Op.bytesLess l m) rfl h1 h2
theorem sAddS (hl : l.length + m.length ≤ 1073741824) (h : k (T (l ++ m))) : pK (bn .prim .add (T l) (T m)) k := pK_i (by show (if l.length + m.length ≤ 1073741824 then some (Value.string (str (l ++ m))) else none).map AV.v = _; rw [if_pos hl]; rfl) h
theorem sLnS (h : k (I l.length)) : pK (ln .s H (T l)) k := h
theorem sIxS {n : Int} (hn : 0 ≤ n ∧ n < (l.length : Int)) (h : ∀ c : UInt8, l[n.toNat]? = some c → k (.v (.int .u8 c.toNat))) : pK (ix .s (T l) (.v (.int i n))) k := by
  have hlt : n.toNat < l.length := by omega
  refine pK_i (x := .v (.int .u8 (((l)[n.toNat]?).getD 0).toNat)) ?_ ?_
  · unfold ix
    exact if_pos hn
  · rw [List.getElem?_eq_getElem hlt]
    exact h _ (List.getElem?_eq_getElem hlt)
theorem sIxK {n : Int} {c : UInt8} (hn : l[n.toNat]? = some c) (h0 : 0 ≤ n) (h : k (.v (.int .u8 c.toNat))) : pK (ix .s (T l) (.v (.int i n))) k := by
  have := (List.getElem?_eq_some_iff.1 hn).1
  refine sIxS (by omega) fun c' hc => ?_
  rw [hn] at hc
  injection hc with hc
  subst hc
  exact h
/-! ### bools, ifaces, tuples -/
theorem sNt (h : k (B false)) : pK (un .not (B true)) k := h
theorem sNf (h : k (B true)) : pK (un .not (B false)) k := h
theorem sPt {x y : AV} (h : k x) : pK (pick (B true) x y) k := h
theorem sPf {x y : AV} (h : k y) : pK (pick (B false) x y) k := h
theorem sEx {vs : List AV} {n : Nat} {x : AV} (hx : vs[n]? = some x) (h : k x) : pK (ex (.tuple vs) n) k := pK_i hx h
theorem sIe0 (h : k (B true)) : pK (bn .iface .eql (.v .nilIface) (.v .nilIface)) k := h
theorem sIn0 (h : k (B false)) : pK (bn .iface .neq (.v .nilIface) (.v .nilIface)) k := h
theorem sIe1 {t : Nat} {x : AV} (h : k (B false)) : pK (bn .iface .eql (.iface t x) (.v .nilIface)) k := h
theorem sIn1 {t : Nat} {x : AV} (h : k (B true)) : pK (bn .iface .neq (.iface t x) (.v .nilIface)) k := h
theorem sMi {t : Nat} {x : AV} (h : k (.iface t x)) : pK (mi true t x) k := h
/-! ### slices -/
theorem sLnR {L : List (List AV)} (h : k (I L.length)) : pK (ln .sl H (.ro L)) k := h
theorem sLnN (h : k (I 0)) : pK (ln .sl H N0) k := h
theorem sIaR {L : List (List AV)} {sz : Nat} {n : Int} (hn : 0 ≤ n ∧ n < (L.length : Int)) (hs : ∀ c ∈ L, c.length = sz) (h : ∀ c, L[n.toNat]? = some c → k (.rd c)) : pK (ia (.sl sz) H (.ro L) (.v (.int i n))) k := by
  have hlt : n.toNat < L.length := by omega
  refine pK_i (x := .rd L[n.toNat]) ?_ (h _ (List.getElem?_eq_getElem hlt))
  show aIdxSl H sz (.ro L) n = _
  simp only [aIdxSl]
  rw [if_pos hn, List.getElem?_eq_getElem hlt]
  simp only [Option.bind_some]
  rw [if_pos (hs _ (List.getElem_mem hlt))]
theorem sFaR {cs : List AV} {o : Nat} (h : k (.rd (cs.drop o))) : pK (fa (some o) H (.rd cs)) k := h
theorem sLdR1 {cs : List AV} {x : AV} {n : Nat} (hx : cs.head? = some x) (h : k x) : pK (ld (some (false, n)) H (.rd cs)) k := pK_i hx h
theorem sLdRA {cs : List AV} {n : Nat} (hn : n ≤ cs.length) (h : k (.agg (cs.take n))) : pK (ld (some (true, n)) H (.rd cs)) k := pK_i (by simp only [ld, behind, if_pos hn]) h
/-! ### calls -/
theorem cPure {S : Sys} {f : Nat} {xs : List AV} {r : AV} (h : APure S f xs r) (hp : ∀ x ∈ xs, Pure x) (hk : kh r H) : cK S (.fn f []) xs H kh := by
  show ACall S f (xs ++ []) H kh
  rw [List.append_nil]
  exact ACall.pure h hp hk
theorem cBool {S : Sys} {f : Nat} {xs : List AV} {b : Bool} (h : APure S f xs (B b)) (hp : ∀ x ∈ xs, Pure x) (h1 : b = true → kh (B true) H) (h2 : b = false → kh (B false) H) : cK S (.fn f []) xs H kh :=
  cPure h hp (by cases b <;> simp_all)
theorem qPure {S : Sys} {f : Nat} {xs : List AV} {r : AV} (h : APure S f xs r) (hp : ∀ x ∈ xs, Pure x) (hk : k r) : cP S (.fn f []) xs k := by
  show ∃ r, APure S f (xs ++ []) r ∧ (∀ x ∈ xs ++ [], Pure x) ∧ k r
  rw [List.append_nil]
  exact ⟨r, h, hp, hk⟩
theorem qBool {S : Sys} {f : Nat} {xs : List AV} {b : Bool} (h : APure S f xs (B b)) (hp : ∀ x ∈ xs, Pure x) (h1 : b = true → k (B true)) (h2 : b = false → k (B false)) : cP S (.fn f []) xs k :=
  qPure h hp (by cases b <;> simp_all)
end
end Go.Abs
namespace Go.Abs
open Go Go.RowKit
section
variable {k : AV → Prop} {kh : AV → Heap → Prop} {H : Heap} {ds : Nat → Prop}
theorem fz_eq {r0 r : AV} (h : r0 = r) (hp : Pure r) : Fz ds H r0 r := by subst h; exact Fz.pure hp
theorem cur_same {d v t : Nat} {cs : List AV} : cur (upd H d ⟨v, true, cs, t⟩) d v = true := by simp [cur]
theorem cur_ne {d o v : Nat} {x : AObj} (h : o ≠ d) (hc : cur H o v = true) : cur (upd H d x) o v = true := by simp only [cur, upd_ne _ _ _ h] at *; exact hc
theorem cur_of {o v : Nat} (h : (H o).ver = v) (hl : (H o).live = true) : cur H o v = true := by simp [cur, h, hl]
/-! ### objects -/
theorem sBoxA {d t : Nat} {cs : List AV} (h : kh (.ptr d ((H d).ver + 1) 0) (upd H d ⟨(H d).ver + 1, true, cs, t⟩)) : hK (aBox H d t (.agg cs)) kh := h
theorem sBoxV {d t : Nat} {x : Value} (hx : x.oneCell' = true) (h : kh (.ptr d ((H d).ver + 1) 0) (upd H d ⟨(H d).ver + 1, true, [.v x], t⟩)) : hK (aBox H d t (.v x)) kh := by
  refine hK_i (H' := (upd H d ⟨(H d).ver + 1, true, [.v x], t⟩)) ?_ h
  have : cellsA H (.v x) = some [.v x] := by
    cases x <;> first | rfl | (simp [Value.oneCell'] at hx)
  simp only [aBox, this, Option.map_some]
theorem sBoxR {d t : Nat} {l : List (List AV)} (h : kh (.ptr d ((H d).ver + 1) 0) (upd H d ⟨(H d).ver + 1, true, [.ro l], t⟩)) : hK (aBox H d t (.ro l)) kh := h
theorem sAl {d t : Nat} {z : List AV} (h : kh (.ptr d ((H d).ver + 1) 0) (upd H d ⟨(H d).ver + 1, true, z, t⟩)) : hK (al (some z) H d t) kh := h
theorem sBd {bl : List (Nat × Nat) × List AV} {parts : List (Nat × AV)} {cs : List AV} (hx : fillA H (fun i => bl.1[i]?) bl.2 parts = some cs) (h : k (.agg cs)) : pK (bd (some bl) H parts) k := pK_i (by show (fillA H (fun i => bl.1[i]?) bl.2 parts).map AV.agg = _; rw [hx]; rfl) h
theorem sFaP {o v f n : Nat} (hc : cur H o v = true) (h : k (.ptr o v (f + n))) : pK (fa (some n) H (.ptr o v f)) k := pK_i (by simp only [fa, hc, if_true]) h
theorem sLdP1 {o v f n : Nat} {x : AV} (hc : cur H o v = true) (hx : ((H o).cs.drop f).head? = some x) (h : k x) : pK (ld (some (false, n)) H (.ptr o v f)) k := pK_i (by simp only [ld, behind, hc, if_true]; exact hx) h
theorem sLdPA {o v f n : Nat} {cs : List AV} (hc : cur H o v = true) (hn : Nat.ble n ((H o).cs.drop f).length = true) (hx : ((H o).cs.drop f).take n = cs) (h : k (.agg cs)) : pK (ld (some (true, n)) H (.ptr o v f)) k :=
  pK_i (by simp only [ld, behind, hc, if_true, if_pos (Nat.le_of_ble_eq_true hn), hx]) h
theorem sStP {o v f n : Nat} {g0 : Bool} {y : AV} {cs : List AV} {k : Heap → Prop} (hc : cur H o v = true) (hy : cellsA H y = some cs) (hn : cs.length = n) (hl : cs.all (leaf H) = true) (hf : Nat.ble (f + n) (H o).cs.length = true)
    (h : k (upd H o ⟨v, true, (H o).cs.take f ++ cs ++ (H o).cs.drop (f + n), (H o).t⟩)) : sK (st (some (g0, n)) H (.ptr o v f) y) k := by
  refine sK_i ?_ h
  simp only [st, hy, hc, hn, hl, Nat.le_of_ble_eq_true hf, beq_self_eq_true, decide_true, Bool.and_self, if_true]
  rw [(cur_iff.1 hc).1]
theorem sNcP {o v f : Nat} (hc : cur H o v = true) (h : k (.ptr o v f)) : pK (nc H (.ptr o v f)) k := pK_i (by simp only [nc, hc, if_true]) h
theorem sNcR {cs : List AV} (h : k (.rd cs)) : pK (nc H (.rd cs)) k := h
/-- a new slice of parts -/
theorem sBS {e sz d n : Nat} {z cs : List AV} {parts : List (Nat × AV)} (hx : fillA H (fun i => if i < n then some (i * sz, sz) else none) (List.replicate n z).flatten parts = some cs)
    (h : kh (.own d ((H d).ver + 1) 0 n sz) (upd H d ⟨(H d).ver + 1, true, cs, e⟩)) : hK (bS (some (e, sz, z)) H d n parts) kh := by
  refine hK_i ?_ h
  simp only [bS, Option.bind_some, hx, Option.map_some]
/-- append to nil -/
theorem sAp0 {e sz d m : Nat} {x : AV} {cells : List AV} (hs : srcA H sz x = some (m, cells)) (hl : cells.all (leaf H) = true) (hm : m ≤ 1073741824)
    (h : kh (.own d ((H d).ver + 1) 0 m sz) (upd H d ⟨(H d).ver + 1, true, cells, e⟩)) : hK (ap (some (e, sz)) H d N0 x) kh := by
  refine hK_i ?_ h
  simp only [ap, Option.bind_some, hs, hl, if_true, if_pos hm]
/-- append to a slice of one's own that is full -/
theorem sApO {e sz d o v n m : Nat} {x : AV} {cells : List AV} (hs : srcA H sz x = some (m, cells)) (hl : cells.all (leaf H) = true) (hc : cur H o v = true) (ht : (H o).t = e) (hm : n + m ≤ 1073741824) (hfull : (H o).cs.length = n * sz)
    (h : kh (.own o (v + 1) 0 (n + m) sz) (upd H o ⟨v + 1, true, (H o).cs ++ cells, e⟩)) : hK (ap (some (e, sz)) H d (.own o v 0 n sz) x) kh := by
  refine hK_i ?_ h
  simp only [ap, Option.bind_some, hs, hl, if_true, hc, ht, hm, and_self, hfull]
theorem sLnO {o v f n sz : Nat} (hc : cur H o v = true) (h : k (I n)) : pK (ln .sl H (.own o v f n sz)) k := pK_i (by simp only [ln, hc, if_true]) h
theorem sIaO {i : IntKind} {o v f m sz : Nat} {n : Int} (hc : cur H o v = true) (hn : 0 ≤ n ∧ n < (m : Int)) (h : k (.ptr o v (f + n.toNat * sz))) : pK (ia (.sl sz) H (.own o v f m sz) (.v (.int i n))) k := by
  refine pK_i ?_ h
  show aIdxSl H sz (.own o v f m sz) n = _
  simp only [aIdxSl, hc, hn, and_self, if_true]
theorem sSlR {L : List (List AV)} {sz : Nat} {b : Int} {i : IntKind} (hs : ∀ c ∈ L, c.length = sz) (hb : 0 ≤ b ∧ b ≤ (L.length : Int)) (h : k (.ro (L.take b.toNat))) : pK (sl (.sl sz) H (.ro L) none (some (.v (.int i b)))) k := by
  refine pK_i ?_ h
  show cutA sz H (.ro L) none (some (.v (.int i b))) = _
  simp only [cutA, bI, Option.bind_some]
  rw [if_pos ⟨hs, Int.le_refl 0, hb.1, hb.2⟩]
  rfl
theorem banI {ban : List Nat} {v : AV} {X : Prop} (h : offB ban v = true) (hx : X) : banK ban v X := ⟨h, hx⟩
end
end Go.Abs
