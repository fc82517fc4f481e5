/- Slices cut, variables and literals made, rows appended to. No program text. -/
import Derived.Test.YtlglooieeadkmaaDoorAbs2
import Derived.Laws.Append
set_option linter.unusedVariables false
set_option linter.unusedSimpArgs false
namespace Go.Abs
open Go Go.RowKit
section
variable {S : Sys} {O : Origin} {H : Heap} {α : Nat → Option Nat} {w : World}

/-- a bound of a slice expression -/
def bI (x : Option AV) (d : Int) : Option Int := match x with
  | none => some d
  | some (.v (.int _ n)) => some n
  | _ => none

def cutA (sz : Nat) (H : Heap) (x : AV) (lo hi : Option AV) : Option AV :=
  match x with
  | .ro l => (bI lo 0).bind fun a => (bI hi l.length).bind fun b => if (∀ cs ∈ l, cs.length = sz) ∧ 0 ≤ a ∧ a ≤ b ∧ b ≤ (l.length : Int) then some (.ro ((l.take b.toNat).drop a.toNat)) else none
  | .own o ver off n sz' => (bI lo 0).bind fun a => (bI hi n).bind fun b => if (cur H o ver = true ∧ sz = sz' ∧ 0 < sz) ∧ 0 ≤ a ∧ a ≤ b ∧ (b ≤ (n : Int) ∨ off + b.toNat * sz ≤ (H o).cs.length) then
      (if a = 0 then some (.own o ver off b.toNat sz) else if a = b then some (.ro []) else some (.own o ver (off + a.toNat * sz) (b.toNat - a.toNat) sz)) else none
  | _ => none

theorem spot_moved {A : Option Addr} {c n m : Nat} {x : Addr} (hA : ∀ x, A = some x → x.spot = none) (h : (if c = n then A else A.map (·.add m)) = some x) : x.spot = none := by
  split at h
  · exact hA _ h
  · obtain ⟨y, hy, rfl⟩ := Option.map_eq_some_iff.1 h
    unfold Addr.add
    split
    · exact hA _ hy
    · rfl
theorem sliceAt_run {t e : TypeId} {sz by_ : Nat} {z : List AV} (hE : eI S.P t = some (e, sz, by_, z)) (A : Option Addr) (n c : Nat) (lo hi : Option Value) (a b : Int) (hlo : lo = none ∧ a = 0 ∨ ∃ k, lo = some (.int k a)) (hhi : hi = none ∧ b = n ∨ ∃ k, hi = some (.int k b))
    (h0 : 0 ≤ a) (h1 : a ≤ b) (h2 : b ≤ c) (w : World) :
    (Instr.sliceAt t (.slice A n c) lo hi none).run S.P w = .ok (.slice (if c = a.toNat then A else A.map (·.add (a.toNat * sz))) (b.toNat - a.toNat) (c - a.toNat)) w := by
  obtain ⟨hu, ht⟩ := eI_inv hE
  obtain ⟨inf, zv, i1, i2, i3, i4, i5, i6⟩ := tI_inv ht
  have hb : b = ((b.toNat : Nat) : Int) := by omega
  have hbb : a ≤ ((b.toNat : Nat) : Int) := by omega
  have h3 : 0 ≤ b := by omega
  rcases hlo with ⟨rfl, rfl⟩ | ⟨k, rfl⟩ <;> rcases hhi with ⟨rfl, rfl⟩ | ⟨k', rfl⟩ <;>
    simp [Instr.sliceAt, Instr.slice, Instr.sliceBounds, Instr.sliceBound, asIntOf, run_underlying hu, sizeOf, run_typeInfo w i1, i3, h0, h1, h2, hbb, h3]
  all_goals (try omega)

theorem bI_spec {ok : Nat → Prop} {x : Option AV} {u : Option Value} {d n : Int} (hx : ∀ y, x = some y → ∃ v, u = some v ∧ Conc w ok H α y v) (hn : x = none → u = none) (h : bI x d = some n) :
    u = none ∧ n = d ∨ ∃ k, u = some (.int k n) := by
  unfold bI at h
  split at h
  · injection h with h; exact .inl ⟨hn rfl, h.symm⟩
  · rename_i k m
    injection h with h
    subst h
    obtain ⟨v, h1, h2⟩ := hx _ rfl
    rw [h2.v_inv] at h1
    exact .inr ⟨k, h1⟩
  · cases h

theorem cutA_ok (hB : Base O H α w) {t e : TypeId} {sz by_ : Nat} {z : List AV} (hE : eI S.P t = some (e, sz, by_, z)) {x y : AV} {v : Value} {lo hi : Option AV} {ul uh : Option Value}
    (h : Conc w (okA O w H α) H α x v) (hl : ∀ y, lo = some y → ∃ v, ul = some v ∧ Conc w (okA O w H α) H α y v) (hl0 : lo = none → ul = none)
    (hh : ∀ y, hi = some y → ∃ v, uh = some v ∧ Conc w (okA O w H α) H α y v) (hh0 : hi = none → uh = none) (he : cutA sz H x lo hi = some y) :
    Steps S O H α w (Instr.sliceAt t v ul uh none) y H := by
  unfold cutA at he
  split at he
  · rename_i l
    obtain ⟨a, ha, he⟩ := Option.bind_eq_some_iff.1 he
    obtain ⟨b, hb, he⟩ := Option.bind_eq_some_iff.1 he
    split at he
    · rename_i hc
      injection he with he
      subst he
      obtain ⟨hall, hc⟩ := hc
      have sa := bI_spec hl hl0 ha
      have sb := bI_spec hh hh0 hb
      have hd := h.ro_inv
      have hlen : ((l.take b.toNat).drop a.toNat).length = b.toNat - a.toNat := by rw [List.length_drop, List.length_take]; omega
      cases hd with
      | ro0 A c hA =>
        simp only [List.length_nil] at hc
        have hr := sliceAt_run (S := S) hE A 0 c ul uh a b sa (by simpa using sb) hc.1 hc.2.1 (by simp at hc; omega) w
        refine Steps.same hB hr ?_
        simp only [List.take_nil, List.drop_nil]
        rw [show b.toNat - a.toNat = 0 by simp at hc; omega]
        refine .d _ _ (.ro0 _ _ fun x hx => ?_)
        exact spot_moved hA hx
      | ro _ bk off c sz' vals hlc hok hsz hcc hrr =>
        have hr := sliceAt_run (S := S) hE (some ⟨bk, off, none⟩) l.length c ul uh a b sa sb hc.1 hc.2.1 (by omega) w
        refine Steps.same hB hr (.d _ _ ?_)
        by_cases hab : a = b
        · have e0 : (l.take b.toNat).drop a.toNat = [] := List.eq_nil_of_length_eq_zero (by omega)
          rw [e0, show b.toNat - a.toNat = 0 by omega]
          exact .ro0 _ _ fun x hx => spot_moved (A := some ⟨bk, off, none⟩) (fun x hx => by injection hx with hx; subst hx; rfl) hx
        · have hne : c ≠ a.toNat := by omega
          rw [if_neg hne, ← hlen]
          simp only [Option.map_some, Addr.add_lit]
          have hpos : 0 < l.length := by omega
          have hszE : sz' = sz := by rw [← hsz l[0] (List.getElem_mem hpos), hall l[0] (List.getElem_mem hpos)]
          subst hszE
          have hget : ∀ (i : Nat) (cs : List AV), ((l.take b.toNat).drop a.toNat)[i]? = some cs → l[a.toNat + i]? = some cs := fun i cs hi => by
            rw [List.getElem?_drop, List.getElem?_take] at hi
            split at hi
            · exact hi
            · cases hi
          refine .ro _ bk (off + a.toNat * sz') (c - a.toNat) sz' (fun i j => vals (a.toNat + i) j) (by omega) hok (fun cs hcs => hsz cs (List.mem_of_mem_take (List.mem_of_mem_drop hcs))) (fun i cs j x h1 h2 => ?_) (fun i cs j x h1 h2 => hrr _ cs j x (hget i cs h1) h2)
          have := hcc _ cs j x (hget i cs h1) h2
          rwa [Nat.add_mul, Nat.add_assoc (a.toNat * sz'), ← Nat.add_assoc off] at this
    · cases he
  · rename_i o ver off n sz'
    obtain ⟨a, ha, he1⟩ := Option.bind_eq_some_iff.1 he
    obtain ⟨b, hb, he2⟩ := Option.bind_eq_some_iff.1 he1
    clear he he1
    split at he2
    · rename_i hc
      obtain ⟨⟨hcur, rfl, hpos⟩, hc⟩ := hc
      obtain ⟨h1, h2⟩ := cur_iff.1 hcur
      have sa := bI_spec hl hl0 ha
      have sb := bI_spec hh hh0 hb
      have hov := h.own_inv.2 h1.symm h2
      unfold OwnV at hov
      cases hα : α o with
      | none =>
        rw [hα] at hov
        obtain ⟨rfl, rfl, rfl⟩ := hov
        have hcs : (H o).cs = [] := by have := hB.obj o h2; unfold RelObj at this; rwa [hα] at this
        have hb0 : b = 0 := by
          rcases hc.2.2 with h3 | h3
          · simp at h3; omega
          · rw [hcs] at h3
            simp only [List.length_nil, Nat.zero_add, Nat.le_zero, Nat.mul_eq_zero] at h3
            omega
        have hr := sliceAt_run (S := S) hE none 0 0 ul uh a b sa (by simpa using sb) hc.1 hc.2.1 (by omega) w
        have ha0 : a = 0 := by omega
        · rw [if_pos ha0] at he2
          injection he2 with he2
          subst he2
          refine Steps.same hB hr ?_
          simp only [Option.map_none, ite_self, hb0]
          refine .own _ _ _ _ _ _ (by omega) fun _ _ => ?_
          unfold OwnV
          rw [hα]
          simp
      | some bk =>
        rw [hα] at hov
        obtain ⟨c, hnc, rfl, hL, cells, tt, fr, hg, hfit⟩ := hov
        have hbc : b.toNat ≤ c := by
          rcases hc.2.2 with h3 | h3
          · omega
          · have : b.toNat * sz ≤ c * sz := by omega
            exact Nat.le_of_mul_le_mul_right this hpos
        have hr := sliceAt_run (S := S) hE (some ⟨bk, off, none⟩) n c ul uh a b sa sb hc.1 hc.2.1 (by omega) w
        by_cases ha0 : a = 0
        · rw [if_pos ha0] at he2
          injection he2 with he2
          subst he2
          subst ha0
          refine Steps.same hB hr ?_
          refine .own _ _ _ _ _ _ (by omega) fun _ _ => ?_
          unfold OwnV
          rw [hα]
          refine ⟨c, hbc, ?_, hL, cells, tt, fr, hg, hfit⟩
          simp [Addr.add_lit]
        · rw [if_neg ha0] at he2
          by_cases hab : a = b
          · rw [if_pos hab] at he2
            injection he2 with he2
            subst he2
            refine Steps.same hB hr ?_
            rw [show b.toNat - a.toNat = 0 by omega]
            exact .d _ _ (.ro0 _ _ fun x hx => spot_moved (A := some ⟨bk, off, none⟩) (fun x hx => by injection hx with hx; subst hx; rfl) hx)
          · rw [if_neg hab] at he2
            injection he2 with he2
            subst he2
            refine Steps.same hB hr ?_
            refine .own _ _ _ _ _ _ (by omega) fun _ _ => ?_
            unfold OwnV
            rw [hα]
            have e1 : (c - a.toNat) * sz = c * sz - a.toNat * sz := Nat.sub_mul _ _ _
            have e2 : a.toNat * sz ≤ c * sz := Nat.mul_le_mul_right _ (by omega)
            refine ⟨c - a.toNat, by omega, ?_, by omega, cells, tt, fr, hg, by omega⟩
            rw [if_neg (by omega)]
            simp [Addr.add_lit]
    · cases he2
  · cases he

/-! ### variables and literals -/
theorem run_newObj (P : Program) (w : World) (o : Obj) : (newObj o).run P w = .ok w.heap.size (w.alloc o) := rfl

def aAlloc (P : Program) (H : Heap) (d : Nat) (t : TypeId) : Option (AV × Heap) :=
  (tI P t).map fun (_, _, z) => (.ptr d ((H d).ver + 1) 0, upd H d ⟨(H d).ver + 1, true, z, t⟩)
theorem new_ptr (hO : OWf S O) (hB : Base O H α w) (d : Nat) (t : TypeId) (cs : List AV) (vs : Array Value) (hl : cs.length ≤ vs.size)
    (hc : ∀ (j : Nat) (x : AV) (v : Value), cs[j]? = some x → vs[j]? = some v → Conc w (okA O w H α) H α x v) {s : Sem Value} (hr : s.run S.P w = .ok (.pointer (some ⟨w.heap.size, 0, none⟩)) (w.alloc (Obj.cells vs t))) :
    Steps S O H α w s (.ptr d ((H d).ver + 1) 0) (upd H d ⟨(H d).ver + 1, true, cs, t⟩) := by
  obtain ⟨h1, h2⟩ := hB.alloc hO d cs vs t hl hc
  exact ⟨_, _, _, hr, h1, h2, .ptr _ _ _ _ (by simp) fun _ _ => ⟨w.heap.size, by simp, rfl⟩⟩
theorem new_own (hO : OWf S O) (hB : Base O H α w) (d : Nat) (t : TypeId) (cs : List AV) (vs : Array Value) (n c sz : Nat) (hl : cs.length ≤ vs.size) (hn : n ≤ c) (hcz : c * sz = vs.size)
    (hc : ∀ (j : Nat) (x : AV) (v : Value), cs[j]? = some x → vs[j]? = some v → Conc w (okA O w H α) H α x v) {s : Sem Value} (hr : s.run S.P w = .ok (.slice (some ⟨w.heap.size, 0, none⟩) n c) (w.alloc (Obj.cells vs t))) :
    Steps S O H α w s (.own d ((H d).ver + 1) 0 n sz) (upd H d ⟨(H d).ver + 1, true, cs, t⟩) := by
  obtain ⟨h1, h2⟩ := hB.alloc hO d cs vs t hl hc
  refine ⟨_, _, _, hr, h1, h2, .own _ _ _ _ _ _ (by simp) fun _ _ => ?_⟩
  unfold OwnV
  simp only [upd_same]
  exact ⟨c, hn, rfl, by omega, vs, t, (0, 0), heap_alloc_new w _, by omega⟩

theorem zero_conc {ok : Nat → Prop} {zv : Value} (j : Nat) (x : AV) (v : Value) (h1 : (zv.cells.toList.map AV.v)[j]? = some x) (h2 : zv.cells[j]? = some v) : Conc w ok H α x v := by
  simp only [List.getElem?_map, Option.map_eq_some_iff] at h1
  obtain ⟨u, h3, rfl⟩ := h1
  rw [Array.getElem?_toList, h2] at h3
  injection h3 with h3
  subst h3
  exact .d _ _ (.v _)

theorem aAlloc_ok (hO : OWf S O) (hB : Base O H α w) {d : Nat} {t : TypeId} {y : AV} {H' : Heap} (he : aAlloc S.P H d t = some (y, H')) : Steps S O H α w (Instr.alloc t true (.tuple #[])) y H' := by
  unfold aAlloc at he
  obtain ⟨⟨s, b, z⟩, h1, h2⟩ := Option.map_eq_some_iff.1 he
  simp only [Prod.mk.injEq] at h2
  obtain ⟨rfl, rfl⟩ := h2
  obtain ⟨i, zv, i1, i2, i3, i4, i5, rfl⟩ := tI_inv h1
  refine new_ptr hO hB d t _ zv.cells (by simp) zero_conc ?_
  simp [Instr.alloc, zeroValue, run_typeInfo w i1, i2, newVar, newRow, run_newObj]

def aBox (H : Heap) (d : Nat) (t : TypeId) (x : AV) : Option (AV × Heap) :=
  (cellsA H x).map fun cs => (.ptr d ((H d).ver + 1) 0, upd H d ⟨(H d).ver + 1, true, cs, t⟩)
theorem aBox_ok (hO : OWf S O) (hB : Base O H α w) {d : Nat} {t : TypeId} {x y : AV} {v : Value} {H' : Heap} (h : Conc w (okA O w H α) H α x v) (he : aBox H d t x = some (y, H')) : Steps S O H α w (Instr.box t v) y H' := by
  unfold aBox at he
  obtain ⟨cs, h1, h2⟩ := Option.map_eq_some_iff.1 he
  simp only [Prod.mk.injEq] at h2
  obtain ⟨rfl, rfl⟩ := h2
  obtain ⟨k1, k2⟩ := cellsA_spec h h1
  refine new_ptr hO hB d t cs v.cells (by omega) k2 ?_
  simp [Instr.box, newVar, newRow, run_newObj]

/-- parts laid into cells -/
def fillA (H : Heap) (place : Nat → Option (Nat × Nat)) : List AV → List (Nat × AV) → Option (List AV)
  | cells, [] => some cells
  | cells, (i, x) :: rest =>
    match place i, cellsA H x with
    | some (off, size), some cs => if cs.length = size ∧ off + size ≤ cells.length then fillA H place (cells.take off ++ cs ++ cells.drop (off + size)) rest else none
    | _, _ => none

theorem foldl_set (off : Nat) : ∀ (L : List Value) (k : Nat) (cells : Array Value), off + k + L.length ≤ cells.size →
    ((L.zipIdx k).foldl (fun (cs : Array Value) (x : Value × Nat) => cs.setIfInBounds (off + x.2) x.1) cells) = (cells.toList.take (off + k) ++ L ++ cells.toList.drop (off + k + L.length)).toArray
  | [], k, cells, h => by simp
  | v :: L, k, cells, h => by
    simp only [List.length_cons] at h
    simp only [List.zipIdx_cons, List.foldl_cons]
    rw [foldl_set off L (k + 1) _ (by simp; omega)]
    apply Array.ext'
    apply List.ext_getElem?
    intro j
    simp only [Array.toList_setIfInBounds, List.append_assoc, List.getElem?_append, List.length_take, List.length_set, Array.length_toList, List.getElem?_take, List.getElem?_set, List.getElem?_drop, List.length_cons]
    have hk : off + k < cells.size := by omega
    rw [show min (off + (k + 1)) cells.size = off + k + 1 by omega, show min (off + k) cells.size = off + k by omega]
    by_cases c1 : j < off + k
    · simp only [show j < off + k + 1 by omega, show j < off + (k + 1) by omega, c1, if_true, show ¬ off + k = j by omega, if_false]
    · by_cases c2 : j = off + k
      · subst c2
        simp [hk]
      · obtain ⟨m, rfl⟩ : ∃ m, j = off + k + 1 + m := ⟨j - (off + k + 1), by omega⟩
        simp only [show ¬ off + k + 1 + m < off + k + 1 by omega, show ¬ off + k + 1 + m < off + k by omega, if_false, show off + k + 1 + m - (off + k + 1) = m by omega, show off + k + 1 + m - (off + k) = m + 1 by omega]
        by_cases c3 : m < L.length
        · simp only [c3, show m + 1 < L.length + 1 by omega, if_true]
          rfl
        · simp only [c3, show ¬ m + 1 < L.length + 1 by omega, if_false, show ¬ off + k = off + (k + 1) + L.length + (m - L.length) by omega]
          congr 1
          omega

theorem fill_ok {ok : Nat → Prop} {place : Nat → Option (Nat × Nat)} : ∀ {parts : List (Nat × AV)} {vparts : List (Nat × Value)} {cells cells' : List AV} {vs : Array Value}, cells.length = vs.size →
    (∀ (j : Nat) (x : AV) (v : Value), cells[j]? = some x → vs[j]? = some v → Conc w ok H α x v) → parts.length = vparts.length →
    (∀ (j : Nat) (p : Nat × AV) (q : Nat × Value), parts[j]? = some p → vparts[j]? = some q → p.1 = q.1 ∧ Conc w ok H α p.2 q.2) → fillA H place cells parts = some cells' →
    ∃ vs', Instr.fill place vs vparts = some vs' ∧ cells'.length = vs'.size ∧ vs'.size = vs.size ∧ ∀ (j : Nat) (x : AV) (v : Value), cells'[j]? = some x → vs'[j]? = some v → Conc w ok H α x v := by
  intro parts
  induction parts with
  | nil =>
    intro vparts cells cells' vs hl hr hn hp he
    cases vparts with
    | cons => simp at hn
    | nil => simp only [fillA, Option.some.injEq] at he; subst he; exact ⟨vs, rfl, hl, rfl, hr⟩
  | cons p parts ih =>
    intro vparts cells cells' vs hl hr hn hp he
    cases vparts with
    | nil => simp at hn
    | cons q vparts =>
      obtain ⟨i, x⟩ := p
      obtain ⟨i', v⟩ := q
      obtain ⟨hi, hx⟩ := hp 0 (i, x) (i', v) rfl rfl
      replace hi : i = i' := hi
      subst hi
      replace hx : Conc w ok H α x v := hx
      simp only [fillA] at he
      split at he
      · rename_i off size cs hpl hcs
        split at he
        · rename_i hc
          obtain ⟨k1, k2⟩ := cellsA_spec hx hcs
          have hf : ((v.cells.zipIdx).foldl (fun (cs : Array Value) (x : Value × Nat) => cs.setIfInBounds (off + x.2) x.1) vs) = (vs.toList.take off ++ v.cells.toList ++ vs.toList.drop (off + size)).toArray := by
            have := foldl_set off v.cells.toList 0 vs (by simp; omega)
            simp only [Nat.add_zero, Array.length_toList] at this
            rw [← Array.foldl_toList, Array.toList_zipIdx, this, show v.cells.size = size by omega]
          obtain ⟨vs', g1, g2, g3, g4⟩ := ih (vparts := vparts) (vs := (vs.toList.take off ++ v.cells.toList ++ vs.toList.drop (off + size)).toArray) (by simp; omega) (fun j x u h1 h2 => by
            simp only [List.getElem?_toArray] at h2
            have e1 : (cells.take off).length = off := by rw [List.length_take]; omega
            have e2 : (vs.toList.take off).length = off := by rw [List.length_take, Array.length_toList]; omega
            by_cases c1 : j < off
            · rw [List.append_assoc, List.getElem?_append_left (by omega), List.getElem?_take_of_lt c1] at h1 h2
              exact hr j x u h1 (by rwa [Array.getElem?_toList] at h2)
            · rw [List.append_assoc, List.getElem?_append_right (by omega), e1] at h1
              rw [List.append_assoc, List.getElem?_append_right (by omega), e2] at h2
              by_cases c2 : j - off < size
              · rw [List.getElem?_append_left (by omega)] at h1
                rw [List.getElem?_append_left (by rw [Array.length_toList]; omega), Array.getElem?_toList] at h2
                exact k2 _ x u h1 h2
              · rw [List.getElem?_append_right (by omega), hc.1, List.getElem?_drop] at h1
                rw [List.getElem?_append_right (by rw [Array.length_toList]; omega), Array.length_toList, show v.cells.size = size by omega, List.getElem?_drop, Array.getElem?_toList] at h2
                exact hr _ x u h1 h2) (by simpa using hn) (fun j p q h1 h2 => hp (j + 1) p q (by simpa using h1) (by simpa using h2)) he
          refine ⟨vs', ?_, g2, by rw [g3]; simp; omega, g4⟩
          simp only [Instr.fill, hpl]
          rw [if_neg (by simp; omega)]
          exact hf ▸ g1
        · cases he
      · cases he

/-- places of a struct's fields, or an array's elements; the zero cells -/
def bldI (P : Program) (t : TypeId) : Option (List (Nat × Nat) × List AV) :=
  match P.underlying t, tI P t with
  | some (.struct fs), some (_, _, z) => (fs.toList.mapM fun f => (P.info? f.type).map fun i => (f.offset, i.size)).map fun l => (l, z)
  | some (.array n e), some (_, _, z) => (P.info? e).map fun i => ((List.range n).map fun j => (j * i.size, i.size), z)
  | _, _ => none

def aBuild (P : Program) (H : Heap) (t : TypeId) (parts : List (Nat × AV)) : Option AV :=
  (bldI P t).bind fun (l, z) => (fillA H (fun i => l[i]?) z parts).map .agg

theorem mapM_run (P : Program) (w : World) : ∀ (fs : List Field) (l : List (Nat × Nat)), (fs.mapM fun f => (P.info? f.type).map fun i => (f.offset, i.size)) = some l →
    (fs.mapM (fun f => do pure (f.offset, ← sizeOf f.type) : Field → Sem (Nat × Nat))).run P w = .ok l w
  | [], l, h => by simp at h; subst h; rfl
  | f :: fs, l, h => by
    simp only [List.mapM_cons, Option.bind_eq_bind, Option.bind_eq_some_iff, Option.map_eq_some_iff, Option.pure_def, Option.some.injEq] at h
    obtain ⟨q, ⟨i, h1, rfl⟩, l', h2, rfl⟩ := h
    have ih := mapM_run P w fs l' h2
    simp only [List.mapM_cons, Sem.run_bind, sizeOf, run_typeInfo w h1, Result.andThen_ok, Sem.run_pure]
    simp only [Sem.run_bind, sizeOf] at ih
    rw [ih]
    rfl

theorem fill_ext {place place' : Nat → Option (Nat × Nat)} (hpl : ∀ i q, place i = some q → place' i = some q) : ∀ (parts : List (Nat × Value)) (cells r : Array Value), Instr.fill place cells parts = some r → Instr.fill place' cells parts = some r
  | [], cells, r, h => h
  | (i, v) :: parts, cells, r, h => by
    simp only [Instr.fill] at h ⊢
    cases hp : place i with
    | none => rw [hp] at h; cases h
    | some q =>
      rw [hpl i q hp]
      rw [hp] at h
      simp only at h ⊢
      split at h
      · cases h
      · rename_i hc
        rw [if_neg hc]
        exact fill_ext hpl parts _ r h

theorem aBuild_ok (hB : Base O H α w) {t : TypeId} {parts : List (Nat × AV)} {vparts : Array (Nat × Value)} {y : AV} (hn : parts.length = vparts.size)
    (hp : ∀ (j : Nat) (p : Nat × AV) (q : Nat × Value), parts[j]? = some p → vparts[j]? = some q → p.1 = q.1 ∧ Conc w (okA O w H α) H α p.2 q.2) (he : aBuild S.P H t parts = some y) :
    Steps S O H α w (Instr.build t vparts) y H := by
  unfold aBuild at he
  obtain ⟨⟨l, z⟩, h1, h2⟩ := Option.bind_eq_some_iff.1 he
  obtain ⟨cs, h3, rfl⟩ := Option.map_eq_some_iff.1 h2
  unfold bldI at h1
  split at h1
  · rename_i fs s b z' hu ht
    obtain ⟨l', h4, h5⟩ := Option.map_eq_some_iff.1 h1
    simp only [Prod.mk.injEq] at h5
    obtain ⟨rfl, rfl⟩ := h5
    obtain ⟨i, zv, i1, i2, i3, i4, i5, rfl⟩ := tI_inv ht
    obtain ⟨vs, g1, g2, g3, g4⟩ := fill_ok (vs := zv.cells) (by simp) zero_conc (vparts := vparts.toList) (by simpa using hn) (fun j p q a b => hp j p q a (by rwa [Array.getElem?_toList] at b)) h3
    refine Steps.same hB (v := .agg vs) ?_ (.agg _ _ g2 g4)
    have hm := mapM_run S.P w fs.toList l' h4
    have hm' : (fs.mapM (fun f => do pure (f.offset, ← sizeOf f.type) : Field → Sem (Nat × Nat))).run S.P w = .ok l'.toArray w := by
      rw [← Array.toArray_toList (xs := fs), List.mapM_toArray]
      simp only [Sem.run_map, hm, Result.andThen_ok]
    simp only [Instr.build, Sem.run_bind, zeroValue, run_typeInfo w i1, i2, Result.andThen_ok, Sem.run_pure, run_underlying hu, hm', List.getElem?_toArray, g1]
  · rename_i n e s b z' hu ht
    obtain ⟨inf, h4, h5⟩ := Option.map_eq_some_iff.1 h1
    simp only [Prod.mk.injEq] at h5
    obtain ⟨rfl, rfl⟩ := h5
    obtain ⟨i, zv, i1, i2, i3, i4, i5, rfl⟩ := tI_inv ht
    obtain ⟨vs, g1, g2, g3, g4⟩ := fill_ok (vs := zv.cells) (by simp) zero_conc (vparts := vparts.toList) (by simpa using hn) (fun j p q a b => hp j p q a (by rwa [Array.getElem?_toList] at b)) h3
    refine Steps.same hB (v := .agg vs) ?_ (.agg _ _ g2 g4)
    have g5 := fill_ext (place' := fun i => some (i * inf.size, inf.size)) (fun i q hq => by
      simp only [List.getElem?_map, Option.map_eq_some_iff] at hq
      obtain ⟨j, h6, rfl⟩ := hq
      obtain ⟨_, rfl⟩ := List.getElem?_eq_some_iff.1 h6
      simp) _ _ _ g1
    simp only [Instr.build, Sem.run_bind, zeroValue, run_typeInfo w i1, i2, Result.andThen_ok, Sem.run_pure, run_underlying hu, sizeOf, run_typeInfo w h4, g5]
  · cases h1

/-- a slice literal -/
def aBuildSlice (P : Program) (H : Heap) (d : Nat) (t : TypeId) (len : Nat) (parts : List (Nat × AV)) : Option (AV × Heap) :=
  (eI P t).bind fun (e, sz, _, z) => if len * sz ≤ 16777216 ∧ 0 < sz then
    (fillA H (fun i => if i < len then some (i * sz, sz) else none) (List.replicate len z).flatten parts).map fun cs => (.own d ((H d).ver + 1) 0 len sz, upd H d ⟨(H d).ver + 1, true, cs, e⟩) else none

theorem flatten_replicate_get {β : Type} (z : List β) (n j : Nat) (hz : 0 < z.length) : (List.replicate n z).flatten[j]? = if j < n * z.length then z[j % z.length]? else none := by
  induction n generalizing j with
  | zero => simp
  | succ n ih =>
    simp only [List.replicate_succ, List.flatten_cons, List.getElem?_append, ih, Nat.succ_mul]
    by_cases c : j < z.length
    · simp only [c, if_true, show j < n * z.length + z.length by omega, Nat.mod_eq_of_lt c]
    · simp only [c, if_false]
      have e : (j - z.length) % z.length = j % z.length := by rw [← Nat.mod_eq_sub_mod (by omega)]
      by_cases c2 : j < n * z.length + z.length
      · simp only [show j - z.length < n * z.length by omega, c2, if_true, e]
      · simp only [show ¬ j - z.length < n * z.length by omega, c2, if_false]

theorem zeros_conc {ok : Nat → Prop} {zv : Value} (n : Nat) (hz : 0 < zv.cells.size) : (List.replicate n (zv.cells.toList.map AV.v)).flatten.length = ((Array.range (n * zv.cells.size)).map (fun i => zv.cells[i % zv.cells.size]!)).size ∧
    ∀ (j : Nat) (x : AV) (v : Value), (List.replicate n (zv.cells.toList.map AV.v)).flatten[j]? = some x → ((Array.range (n * zv.cells.size)).map (fun i => zv.cells[i % zv.cells.size]!))[j]? = some v → Conc w ok H α x v := by
  constructor
  · simp [List.length_flatten]
  · intro j x v h1 h2
    rw [flatten_replicate_get _ _ _ (by simpa using hz)] at h1
    simp only [List.length_map, Array.length_toList] at h1
    split at h1
    · rename_i hj
      simp only [Array.getElem?_map, Array.getElem?_range, hj, if_true, Option.map_some, Option.some.injEq] at h2
      have hm := Nat.mod_lt j hz
      refine zero_conc (zv := zv) (j % zv.cells.size) x v h1 ?_
      rw [← h2, Array.getElem?_eq_getElem hm]
      simp [hm]
    · cases h1

theorem aBuildSlice_ok (hO : OWf S O) (hB : Base O H α w) {d : Nat} {t : TypeId} {len : Nat} {parts : List (Nat × AV)} {vparts : Array (Nat × Value)} {y : AV} {H' : Heap} (hn : parts.length = vparts.size)
    (hp : ∀ (j : Nat) (p : Nat × AV) (q : Nat × Value), parts[j]? = some p → vparts[j]? = some q → p.1 = q.1 ∧ Conc w (okA O w H α) H α p.2 q.2) (he : aBuildSlice S.P H d t len parts = some (y, H')) :
    Steps S O H α w (Instr.buildSlice t len vparts) y H' := by
  unfold aBuildSlice at he
  obtain ⟨⟨e, sz, b, z⟩, h1, h2⟩ := Option.bind_eq_some_iff.1 he
  simp only at h2
  split at h2
  · rename_i hc
    obtain ⟨cs, h3, h4⟩ := Option.map_eq_some_iff.1 h2
    simp only [Prod.mk.injEq] at h4
    obtain ⟨rfl, rfl⟩ := h4
    obtain ⟨hu, ht⟩ := eI_inv h1
    obtain ⟨i, zv, i1, i2, i3, i4, i5, rfl⟩ := tI_inv ht
    subst i3
    have hz := zeros_conc (w := w) (ok := okA O w H α) (H := H) (α := α) (zv := zv) len (by omega)
    obtain ⟨vs, g1, g2, g3, g4⟩ := fill_ok hz.1 hz.2 (vparts := vparts.toList) (by simpa using hn) (fun j p q a b => hp j p q a (by rwa [Array.getElem?_toList] at b)) h3
    have g5 := fill_ext (place' := fun k => some (k * i.size, i.size)) (fun k q hq => by
      split at hq
      · exact hq
      · cases hq) _ _ _ g1
    have hvs : vs.size = len * i.size := by rw [g3]; simp [i5]
    refine new_own hO hB d e cs vs len len i.size (by omega) (Nat.le_refl _) hvs.symm g4 ?_
    rw [i5] at g5
    have hle : ¬ 16777216 < len * i.size := by omega
    have hi0 : ¬ i.size = 0 := by omega
    by_cases hl0 : len = 0
    · subst hl0
      have g6 : Instr.fill (fun k => some (k * i.size, i.size)) #[] vparts.toList = some vs := by simpa [show Array.range 0 = #[] from rfl] using g5
      simp [Instr.buildSlice, run_underlying hu, sizeOf, run_typeInfo w i1, newRow, run_newObj, g6, show Array.range 0 = #[] from rfl]
    · simp [Instr.buildSlice, run_underlying hu, sizeOf, zeroValue, run_typeInfo w i1, i2, i5, newRow, run_newObj, hl0, hi0, hle, g5]
      intro hz0
      exact absurd hz0 (Nat.mul_ne_zero hl0 hi0)
  · cases h2
end
end Go.Abs
