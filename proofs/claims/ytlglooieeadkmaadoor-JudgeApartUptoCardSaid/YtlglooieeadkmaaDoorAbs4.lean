/- make, append, clear. No program text. -/
import Derived.Test.YtlglooieeadkmaaDoorAbs3
import Derived.IntWalk
set_option linter.unusedVariables false
set_option linter.unusedSimpArgs false
namespace Go.Abs
open Go Go.RowKit
section
variable {S : Sys} {O : Origin} {H : Heap} {α : Nat → Option Nat} {w : World}

theorem new_own2 {W : World} (hO : OWf S O) (hB : Base O H α W) (hL : LaterS O H α w H α W) (d : Nat) (t : TypeId) (cs : List AV) (vs : Array Value) (n c sz : Nat) (hl : cs.length ≤ vs.size) (hn : n ≤ c) (hcz : c * sz = vs.size)
    (hc : ∀ (j : Nat) (x : AV) (v : Value), cs[j]? = some x → vs[j]? = some v → Conc W (okA O W H α) H α x v) {s : Sem Value} (hr : s.run S.P w = .ok (.slice (some ⟨W.heap.size, 0, none⟩) n c) (W.alloc (Obj.cells vs t))) :
    Steps S O H α w s (.own d ((H d).ver + 1) 0 n sz) (upd H d ⟨(H d).ver + 1, true, cs, t⟩) := by
  obtain ⟨h1, h2⟩ := hB.alloc hO d cs vs t hl hc
  refine ⟨_, _, _, hr, h1, hL.trans h2, .own _ _ _ _ _ _ (by simp) fun _ _ => ?_⟩
  unfold OwnV
  simp only [upd_same]
  exact ⟨c, hn, rfl, by omega, vs, t, (0, 0), heap_alloc_new W _, by omega⟩

def aMake (P : Program) (H : Heap) (d : Nat) (t : TypeId) (l c : AV) : Option (AV × Heap) :=
  match l, c with
  | .v (.int _ a), .v (.int _ b) => (eI P t).bind fun (e, sz, by_, z) => if (0 ≤ a ∧ a ≤ b ∧ b ≤ 1073741824) ∧ 0 < sz ∧ by_ ≤ 131072 then
      some (.own d ((H d).ver + 1) 0 a.toNat sz, upd H d ⟨(H d).ver + 1, true, (List.replicate a.toNat z).flatten, e⟩) else none
  | _, _ => none

theorem wrap_small {a : Int} (h0 : 0 ≤ a) (h1 : a ≤ 1073741824) : IntKind.i64.wrap a = a := by
  rw [IntKind.wrap_i64]; omega

theorem aMake_ok (hO : OWf S O) (hB : Base O H α w) {d : Nat} {t : TypeId} {l c : AV} {ul uc : Value} {y : AV} {H' : Heap} (hl : Conc w (okA O w H α) H α l ul) (hc : Conc w (okA O w H α) H α c uc) (he : aMake S.P H d t l c = some (y, H')) :
    Steps S O H α w (Instr.makeSlice t ul uc) y H' := by
  unfold aMake at he
  split at he
  · rename_i k a k' b
    have e1 := hl.v_inv
    have e2 := hc.v_inv
    subst e1 e2
    obtain ⟨⟨e, sz, by_, z⟩, h1, h2⟩ := Option.bind_eq_some_iff.1 he
    simp only at h2
    split at h2
    · rename_i hcond
      obtain ⟨⟨ha0, hab, hb⟩, hsz, hby⟩ := hcond
      injection h2 with h2
      simp only [Prod.mk.injEq] at h2
      obtain ⟨rfl, rfl⟩ := h2
      obtain ⟨hu, ht⟩ := eI_inv h1
      obtain ⟨i, zv, i1, i2, i3, i4, i5, rfl⟩ := tI_inv ht
      subst i3 i4
      obtain ⟨A, rfl⟩ := Int.eq_ofNat_of_zero_le ha0
      obtain ⟨B, rfl⟩ := Int.eq_ofNat_of_zero_le (show 0 ≤ b by omega)
      simp only [Int.toNat_natCast]
      have hz := zeros_conc (w := w) (ok := okA O w H α) (H := H) (α := α) (zv := zv) A (by omega)
      have hz' := zeros_conc (w := w) (ok := okA O w H α) (H := H) (α := α) (zv := zv) B (by omega)
      have hAB : A * i.size ≤ B * i.size := Nat.mul_le_mul_right _ (by omega)
      have hlen : (List.replicate A (zv.cells.toList.map AV.v)).flatten.length = A * i.size := by rw [hz.1]; simp [i5]
      refine new_own hO hB d e _ ((Array.range (B * i.size)).map (fun j => zv.cells[j % zv.cells.size]!)) A B i.size (by simpa [hlen] using hAB) (by omega) (by simp) (fun j x v h3 h4 => ?_) ?_
      · refine hz'.2 j x v ?_ (by simpa [i5] using h4)
        rw [flatten_replicate_get _ _ _ (by simp; omega)] at h3 ⊢
        simp only [List.length_map, Array.length_toList, i5] at h3 ⊢
        split at h3
        · rw [if_pos (by omega)]; exact h3
        · cases h3
      · have w1 := wrap_small (a := (A : Int)) (by omega) (by omega)
        have w2 := wrap_small (a := (B : Int)) (by omega) (by omega)
        have hbytes : (i.bytes : Int) * (B : Int) ≤ 281474976710656 := by
          have h5 : i.bytes * B ≤ 131072 * 1073741824 := Nat.mul_le_mul hby (by omega)
          have h6 : ((i.bytes * B : Nat) : Int) = (i.bytes : Int) * (B : Int) := by simp
          omega
        have hbytes2 : ¬ (281474976710656 < (i.bytes : Int) * (B : Int)) := by omega
        have hroom : ¬ (roomBytes < B * i.bytes) := by
          have h5 : B * i.bytes ≤ 1073741824 * 131072 := Nat.mul_le_mul (by omega) hby
          unfold roomBytes
          omega
        have hn0 : ¬ ((B : Int) < 0) := by omega
        have hn1 : ¬ ((A : Int) < 0) := by omega
        have hn2 : ¬ ((B : Int) < (A : Int)) := by omega
        by_cases hB0 : B * i.size = 0
        · simp [Instr.makeSlice, run_underlying hu, asInt, asIntOf, run_typeInfo w i1, w1, w2, hbytes2, hn0, hn1, hn2, askRoom, hroom, sizeOf, hB0, newRow, run_newObj, show Array.range 0 = #[] from rfl]
        · simp [Instr.makeSlice, run_underlying hu, asInt, asIntOf, run_typeInfo w i1, w1, w2, hbytes2, hn0, hn1, hn2, askRoom, hroom, sizeOf, hB0, newRow, run_newObj, zeroValue, i2]
    · cases h2
  · cases he

/-- what append takes its elements from -/
def srcA (H : Heap) (sz : Nat) : AV → Option (Nat × List AV)
  | .ro l => if ∀ cs ∈ l, cs.length = sz then some (l.length, l.flatten) else none
  | .own o ver off m sz' => if (cur H o ver = true ∧ sz = sz') ∧ off + m * sz ≤ (H o).cs.length then some (m, ((H o).cs.drop off).take (m * sz)) else none
  | .v (.slice none 0 0) => some (0, [])
  | _ => none

theorem flatten_get {β : Type} (sz : Nat) (hz : 0 < sz) : ∀ (l : List (List β)), (∀ c ∈ l, c.length = sz) → ∀ j, l.flatten[j]? = (l[j / sz]?).bind (·[j % sz]?)
  | [], _, j => by simp
  | c :: l, h, j => by
    have hc := h c (by simp)
    rw [List.flatten_cons, List.getElem?_append, hc]
    by_cases c1 : j < sz
    · rw [if_pos c1, Nat.div_eq_of_lt c1, Nat.mod_eq_of_lt c1]
      rfl
    · rw [if_neg c1, flatten_get sz hz l (fun c hc => h c (by simp [hc])) (j - sz)]
      have e1 : j / sz = (j - sz) / sz + 1 := Nat.div_eq_sub_div hz (by omega)
      have e2 : j % sz = (j - sz) % sz := Nat.mod_eq_sub_mod (by omega)
      rw [e1, e2]
      rfl
theorem flatten_len {β : Type} (sz : Nat) : ∀ (l : List (List β)), (∀ c ∈ l, c.length = sz) → l.flatten.length = l.length * sz
  | [], _ => by simp
  | c :: l, h => by
    rw [List.flatten_cons, List.length_append, h c (by simp), flatten_len sz l (fun c hc => h c (by simp [hc])), List.length_cons, Nat.succ_mul, Nat.add_comm]

theorem srcA_spec (hB : Base O H α w) {sz : Nat} (hsz : 0 < sz) {x : AV} {v : Value} {m : Nat} {cells : List AV} (h : Conc w (okA O w H α) H α x v) (he : srcA H sz x = some (m, cells)) :
    cells.length = m * sz ∧ ∃ A c, v = .slice A m c ∧ (m = 0 ∨ ∃ b off, A = some ⟨b, off, none⟩ ∧ CellsAt w (okA O w H α) H α b off cells) := by
  unfold srcA at he
  split at he
  · rename_i l
    split at he
    · rename_i hall
      injection he with he
      simp only [Prod.mk.injEq] at he
      obtain ⟨rfl, rfl⟩ := he
      refine ⟨flatten_len sz l hall, ?_⟩
      cases h.ro_inv with
      | ro0 A c ha => exact ⟨A, c, rfl, .inl rfl⟩
      | ro _ b off c sz' vals hlc hok hs hc hr =>
        refine ⟨_, c, rfl, ?_⟩
        cases hl0 : l with
        | nil => exact .inl rfl
        | cons c0 l0 =>
          refine .inr ⟨b, off, rfl, fun j x hx => ?_⟩
          rw [← hl0] at hx
          have hs' : sz' = sz := by rw [← hs c0 (by simp [hl0]), hall c0 (by simp [hl0])]
          subst hs'
          rw [flatten_get sz' hsz l hall] at hx
          obtain ⟨cs, h1, h2⟩ := Option.bind_eq_some_iff.1 hx
          have h3 := hc _ cs _ x h1 h2
          have h4 : j / sz' * sz' + j % sz' = j := by rw [Nat.mul_comm]; exact Nat.div_add_mod j sz'
          rw [h4] at h3
          exact ⟨_, h3, .d _ _ (hr _ cs _ x h1 h2)⟩
    · cases he
  · rename_i o ver off m' sz'
    split at he
    · rename_i hc
      injection he with he
      simp only [Prod.mk.injEq] at he
      obtain ⟨rfl, rfl⟩ := he
      obtain ⟨⟨hcur, rfl⟩, hfit⟩ := hc
      refine ⟨by rw [List.length_take, List.length_drop]; omega, ?_⟩
      obtain ⟨h1, h2⟩ := cur_iff.1 hcur
      have hov := h.own_inv.2 h1.symm h2
      unfold OwnV at hov
      cases hα : α o with
      | none =>
        rw [hα] at hov
        obtain ⟨rfl, rfl, rfl⟩ := hov
        exact ⟨_, _, rfl, .inl rfl⟩
      | some bk =>
        rw [hα] at hov
        obtain ⟨c, hnc, rfl, _⟩ := hov
        refine ⟨_, c, rfl, .inr ⟨bk, off, rfl, ?_⟩⟩
        have := (((hB.obj o h2).cellsAt hα).drop off).take (m' * sz)
        rwa [Nat.zero_add] at this
    · cases he
  · injection he with he
    simp only [Prod.mk.injEq] at he
    obtain ⟨rfl, rfl⟩ := he
    rw [h.v_inv]
    exact ⟨by simp, none, 0, rfl, .inl rfl⟩
  · cases he

def aAppend (P : Program) (H : Heap) (d : Nat) (t : TypeId) (s x : AV) : Option (AV × Heap) :=
  (eI P t).bind fun (e, sz, by_, _) => (srcA H sz x).bind fun (m, cells) =>
    if (0 < sz ∧ by_ ≤ 131072) ∧ cells.all (leaf H) = true then
      match s with
      | .v (.slice none 0 0) => if m ≤ 1073741824 then some (.own d ((H d).ver + 1) 0 m sz, upd H d ⟨(H d).ver + 1, true, cells, e⟩) else none
      | .own o ver off k sz' => if ((cur H o ver = true ∧ sz = sz') ∧ off = 0 ∧ (H o).t = e) ∧ k + m ≤ 1073741824 then
          (if (H o).cs.length = k * sz then some (.own o (ver + 1) 0 (k + m) sz, upd H o ⟨ver + 1, true, (H o).cs ++ cells, e⟩)
           else if (k + m) * sz ≤ (H o).cs.length then some (.own o (ver + 1) 0 (k + m) sz, upd H o ⟨ver + 1, true, (H o).cs.take (k * sz) ++ cells ++ (H o).cs.drop ((k + m) * sz), e⟩)
           else none) else none
      | _ => none
    else none

/-- append at the level of the run: a new row, or the old one written behind its end -/
theorem append_core (hO : OWf S O) (hB : Base O H α w) {t e ty : TypeId} {sz by_ : Nat} {z : List AV} (hE : eI S.P t = some (e, sz, by_, z)) (hsz : 0 < sz) (hby : by_ ≤ 131072)
    {x : AV} {v : Value} {m : Nat} {cells : List AV} (h : Conc w (okA O w H α) H α x v) (hs : srcA H sz x = some (m, cells)) (hleaf : cells.all (leaf H) = true) :
    (m ≤ 1073741824 → ∀ d, Steps S O H α w (Builtin.append_ #[t, t] ty #[.slice none 0 0, v]) (.own d ((H d).ver + 1) 0 m sz) (upd H d ⟨(H d).ver + 1, true, cells, e⟩)) ∧
    (∀ (o b k c : Nat) (cur : Array Value), (H o).live = true → α o = some b → (H o).t = e → w.heap[b]? = some (Obj.cells cur e (0, 0)) → k ≤ c → c * sz ≤ cur.size → (H o).cs.length ≤ c * sz → k * sz ≤ (H o).cs.length → k + m ≤ 1073741824 →
      ((H o).cs.length = k * sz ∨ (k + m) * sz ≤ (H o).cs.length) →
      Steps S O H α w (Builtin.append_ #[t, t] ty #[.slice (some ⟨b, 0, none⟩) k c, v]) (.own o ((H o).ver + 1) 0 (k + m) sz) (upd H o ⟨(H o).ver + 1, true, (H o).cs.take (k * sz) ++ cells ++ (H o).cs.drop ((k + m) * sz), e⟩)) := by
  obtain ⟨hu, ht⟩ := eI_inv hE
  obtain ⟨i, zv, i1, i2, i3, i4, i5, rfl⟩ := tI_inv ht
  subst i3 i4
  obtain ⟨hlen, A, cx, rfl, hat⟩ := srcA_spec hB hsz h hs
  have hvals : ∃ news : List Value, news.length = cells.length ∧ (0 < m → ∃ b off, A = some ⟨b, off, none⟩ ∧ ∀ (j : Nat) (v : Value), news[j]? = some v → w.cell? (Addr.add ⟨b, off, none⟩ j) = some v) ∧
      ∀ (j : Nat) (x : AV) (v : Value), cells[j]? = some x → news[j]? = some v → Conc w (okA O w H α) H α x v := by
    rcases hat with h0 | ⟨b, off, rfl, hc⟩
    · have : cells = [] := List.eq_nil_of_length_eq_zero (by rw [hlen, h0]; simp)
      subst this
      exact ⟨[], rfl, fun hp => by omega, fun j x v h1 => by simp at h1⟩
    · obtain ⟨news, g1, g2, g3⟩ := hc.vals
      exact ⟨news, g1, fun _ => ⟨b, off, rfl, g2⟩, g3⟩
  obtain ⟨news, n1, n2, n3⟩ := hvals
  have hone : ∀ u ∈ news, u.oneCell' = true := fun u hu' => by
    obtain ⟨j, hj, rfl⟩ := List.getElem_of_mem hu'
    have hj' : j < cells.length := by omega
    exact leaf_one (n3 j cells[j] _ (List.getElem?_eq_getElem hj') (List.getElem?_eq_getElem hj)) (by rw [List.all_eq_true] at hleaf; exact hleaf _ (List.getElem_mem hj'))
  have hbytes : ∀ n, n ≤ 1073741824 → n * i.bytes ≤ 140737488355328 := fun n hn => Nat.le_trans (Nat.mul_le_mul hn hby) (by decide)
  -- the cells of a new row
  have hnew : ∀ (olds : List Value) (ocs : List AV) (W : World), olds.length = ocs.length → (∀ (j : Nat) (x : AV) (v : Value), ocs[j]? = some x → olds[j]? = some v → Conc w (okA O w H α) H α x v) → ∀ rest : Array Value,
      (ocs ++ cells).length ≤ (olds.toArray ++ news.toArray ++ rest).size ∧ ∀ (j : Nat) (x : AV) (v : Value), (ocs ++ cells)[j]? = some x → (olds.toArray ++ news.toArray ++ rest)[j]? = some v → Conc w (okA O w H α) H α x v := by
    intro olds ocs W ho hoc rest
    refine ⟨by simp; omega, fun j x v h1 h2 => ?_⟩
    rw [Array.getElem?_append_left (by have := (List.getElem?_eq_some_iff.1 h1).1; simp at this ⊢; omega)] at h2
    rw [List.append_toArray, List.getElem?_toArray] at h2
    by_cases c1 : j < ocs.length
    · rw [List.getElem?_append_left c1] at h1
      rw [List.getElem?_append_left (by omega)] at h2
      exact hoc j x v h1 h2
    · rw [List.getElem?_append_right (by omega)] at h1
      rw [List.getElem?_append_right (by omega), ho] at h2
      exact n3 _ x v h1 h2
  constructor
  · intro hm d
    by_cases hm0 : m = 0
    · subst hm0
      have hce : cells = [] := List.eq_nil_of_length_eq_zero (by rw [hlen]; simp)
      subst hce
      obtain ⟨h1, h2⟩ := hB.virtual d e
      refine ⟨.slice none 0 0, w, _, ?_, h1, h2, .own _ _ _ _ _ _ (by simp) fun _ _ => by unfold OwnV; simp⟩
      cases A with
      | none => simp [Builtin.append_, run_underlying hu, sizeOf, run_typeInfo w i1, Builtin.lenOf, Builtin.firstCells]
      | some ad => simp [Builtin.append_, run_underlying hu, sizeOf, run_typeInfo w i1, Builtin.lenOf, Builtin.firstCells, loadCells, loadCellsFrom]
    · obtain ⟨b, off, rfl, hn2⟩ := n2 (by omega)
      have hr := run_append_nil (P := S.P) w t ty e i zv hu i1 i2 ⟨b, off, none⟩ m cx news (by omega) hn2 (by omega) (by omega) (Nat.le_trans (hbytes m hm) (by decide))
      obtain ⟨hD, hDL⟩ := hB.drewN 1
      have hge := grownCap_ge w m 0 e
      obtain ⟨q1, q2⟩ := hnew [] [] w rfl (fun j x v h1 => by simp at h1) (Builtin.zeroCells zv.cells (grownCap w m 0 e - m))
      simp only [List.nil_append, show ([] : List Value).toArray = #[] from rfl, Array.empty_append] at q1 q2
      exact new_own2 hO hD hDL d e cells (news.toArray ++ Builtin.zeroCells zv.cells (grownCap w m 0 e - m)) m (grownCap w m 0 e) i.size (by simpa using q1) hge
        (by simp only [Array.size_append, List.size_toArray, size_zeroCells, i5, n1, hlen, ← Nat.add_mul]; congr 1; omega) (fun j x v h1 h2 => (q2 j x v h1 h2).later hDL) hr
  · intro o b k c cur hl hα ht' hg hkc hfit hL hk hkm hcase
    have hold : ∀ (j : Nat) (x : AV) (v : Value), (H o).cs[j]? = some x → cur[j]? = some v → Conc w (okA O w H α) H α x v := by
      have := hB.obj o hl
      unfold RelObj at this
      rw [hα] at this
      obtain ⟨cells', g1, g2, g3⟩ := this
      rw [ht', hg] at g1
      injection g1 with g1
      injection g1 with g1
      subst g1
      exact g3
    have hcsl : (H o).cs.length ≤ cur.size := by omega
    have hkz : k * i.size ≤ c * i.size := Nat.mul_le_mul_right _ hkc
    have hkm' : (k + m) * i.size = k * i.size + m * i.size := Nat.add_mul _ _ _
    by_cases hm0 : m = 0
    · subst hm0
      have hce : cells = [] := List.eq_nil_of_length_eq_zero (by rw [hlen]; simp)
      subst hce
      simp only [Nat.add_zero, List.append_nil, List.take_append_drop]
      obtain ⟨h1, h2⟩ := hB.write hO o b hl hα cur cur (by rw [ht']; exact hg) rfl true (H o).cs hcsl (fun h => by cases h) hold
      rw [setRow_self w b cur (H o).t (0, 0) (by rw [ht']; exact hg)] at h1 h2
      rw [ht'] at h1 h2
      refine ⟨.slice (some ⟨b, 0, none⟩) k c, w, α, ?_, h1, h2, .own _ _ _ _ _ _ (by simp) fun _ _ => ?_⟩
      · cases A with
        | none => simp [Builtin.append_, run_underlying hu, sizeOf, run_typeInfo w i1, Builtin.lenOf, Builtin.firstCells, hkc, storeCells]
        | some ad => simp [Builtin.append_, run_underlying hu, sizeOf, run_typeInfo w i1, Builtin.lenOf, Builtin.firstCells, hkc, storeCells, loadCells, loadCellsFrom]
      · unfold OwnV
        rw [hα]
        simp only [upd_same, Nat.zero_add]
        exact ⟨c, hkc, rfl, hL, cur, e, (0, 0), hg, hfit⟩
    · obtain ⟨b', off, rfl, hn2⟩ := n2 (by omega)
      by_cases hroom : k + m ≤ c
      · have hkmc : (k + m) * i.size ≤ c * i.size := Nat.mul_le_mul_right _ hroom
        have hr := run_append_room (P := S.P) w t ty e i hu i1 b k c cur hg ⟨b', off, none⟩ m cx news (by omega) hn2 hone hroom (by omega)
        obtain ⟨h1, h2⟩ := hB.write hO o b hl hα cur (cur.toList.take (k * i.size) ++ news ++ cur.toList.drop (k * i.size + news.length)).toArray (by rw [ht']; exact hg)
          (by simp only [List.size_toArray, List.length_append, List.length_take, List.length_drop, Array.length_toList]; omega) true ((H o).cs.take (k * i.size) ++ cells ++ (H o).cs.drop ((k + m) * i.size))
          (by simp only [List.size_toArray, List.length_append, List.length_take, List.length_drop, Array.length_toList]; omega) (fun h => by cases h)
          (fun j x v hx hv => by
            simp only [List.getElem?_toArray] at hv
            have e1 : ((H o).cs.take (k * i.size)).length = k * i.size := by rw [List.length_take]; omega
            have e2 : (cur.toList.take (k * i.size)).length = k * i.size := by rw [List.length_take, Array.length_toList]; omega
            by_cases c1 : j < k * i.size
            · rw [List.append_assoc, List.getElem?_append_left (by omega), List.getElem?_take_of_lt c1] at hx hv
              exact hold j x v hx (by rwa [Array.getElem?_toList] at hv)
            · rw [List.append_assoc, List.getElem?_append_right (by omega), e1] at hx
              rw [List.append_assoc, List.getElem?_append_right (by omega), e2] at hv
              by_cases c2 : j - k * i.size < m * i.size
              · rw [List.getElem?_append_left (by omega)] at hx hv
                exact n3 _ x v hx hv
              · rw [List.getElem?_append_right (by omega), hlen, List.getElem?_drop] at hx
                rw [List.getElem?_append_right (by omega), n1, hlen, List.getElem?_drop, Array.getElem?_toList] at hv
                rw [hkm'] at hx
                exact hold _ x v hx hv)
        rw [ht'] at h1 h2
        refine ⟨_, _, α, hr, h1, h2, .own _ _ _ _ _ _ (by simp) fun _ _ => ?_⟩
        unfold OwnV
        rw [hα]
        simp only [upd_same, Nat.zero_add]
        refine ⟨c, hroom, rfl, ?_, _, e, (0, 0), setRow_heap w b cur _ e _ hg, ?_⟩
        · simp only [List.length_append, List.length_take, List.length_drop]
          omega
        · simp only [List.size_toArray, List.length_append, List.length_take, List.length_drop, Array.length_toList]
          omega
      · have hend : (H o).cs.length = k * i.size := by
          rcases hcase with h | h
          · exact h
          · exfalso
            have : (k + m) * i.size ≤ c * i.size := by omega
            exact hroom (Nat.le_of_mul_le_mul_right this hsz)
        have hdrop : (H o).cs.drop ((k + m) * i.size) = [] := List.drop_eq_nil_of_le (by omega)
        have htake : (H o).cs.take (k * i.size) = (H o).cs := List.take_of_length_le (by omega)
        rw [hdrop, htake, List.append_nil]
        have holds : ∀ (j : Nat) (v : Value), (cur.toList.take (k * i.size))[j]? = some v → w.cell? (Addr.add ⟨b, 0, none⟩ j) = some v := fun j v hv => by
          rw [List.getElem?_take] at hv
          split at hv
          · rw [Array.getElem?_toList] at hv
            rw [Addr.add_lit]
            simp [World.cell?, hg, hv]
          · cases hv
        have hr := run_append_grow (P := S.P) w t ty e i zv hu i1 i2 ⟨b, 0, none⟩ k c (cur.toList.take (k * i.size)) (by rw [List.length_take, Array.length_toList]; omega) holds ⟨b', off, none⟩ m cx news (by omega) hn2 (by omega) (by omega)
          (growslice_fits (by omega) (hbytes _ hkm))
        obtain ⟨hD, hDL⟩ := hB.drewN 1
        have hge := grownCap_ge w (k + m) c e
        obtain ⟨q1, q2⟩ := hnew (cur.toList.take (k * i.size)) (H o).cs w (by rw [List.length_take, Array.length_toList]; omega) (fun j x v h1 h2 => by
          rw [List.getElem?_take] at h2
          split at h2
          · exact hold j x v h1 (by rwa [Array.getElem?_toList] at h2)
          · cases h2) (Builtin.zeroCells zv.cells (grownCap w (k + m) c e - (k + m)))
        refine new_own2 hO hD hDL o e ((H o).cs ++ cells) _ (k + m) (grownCap w (k + m) c e) i.size q1 hge ?_ (fun j x v h1 h2 => (q2 j x v h1 h2).later hDL) hr
        simp only [Array.size_append, List.size_toArray, size_zeroCells, i5, n1, hlen, List.length_take, Array.length_toList]
        have : (grownCap w (k + m) c e - (k + m)) * i.size = grownCap w (k + m) c e * i.size - (k + m) * i.size := Nat.sub_mul _ _ _
        have : (k + m) * i.size ≤ grownCap w (k + m) c e * i.size := Nat.mul_le_mul_right _ hge
        omega
end
end Go.Abs
