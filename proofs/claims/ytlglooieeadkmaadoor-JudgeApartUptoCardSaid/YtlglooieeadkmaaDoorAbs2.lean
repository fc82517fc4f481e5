/- What single operations do to abstract values, and that the machine's operations do just that: loads, stores, fields, indexes, slices, literals. No program text. -/
import Derived.Test.YtlglooieeadkmaaDoorAbs1
import Derived.ChangeKeysEq
set_option linter.unusedVariables false
set_option linter.unusedSimpArgs false
namespace Go.Abs
open Go Go.RowKit

/-! ### types -/
def aggT (P : Program) (t : TypeId) : Option Bool := (P.underlying t).map fun | .struct _ => true | .array _ _ => true | _ => false
/-- how a variable of a type is loaded: as an aggregate? how many cells? -/
def lI (P : Program) (t : TypeId) : Option (Bool × Nat) := (aggT P t).bind fun g => (P.info? t).map fun i => (g, i.size)
/-- a type's cells, bytes, zero value's cells. -/
def tI (P : Program) (t : TypeId) : Option (Nat × Nat × List AV) := (P.info? t).bind fun i => i.zero.bind fun z => if z.cells.size = i.size then some (i.size, i.bytes, z.cells.toList.map .v) else none
/-- a slice type: its element's type, cells, bytes, zero cells. -/
def eI (P : Program) (t : TypeId) : Option (TypeId × Nat × Nat × List AV) := match P.underlying t with
  | some (.slice e) => (tI P e).map fun (s, b, z) => (e, s, b, z)
  | _ => none
/-- an array type: its length, its element's type and cells. -/
def aI (P : Program) (t : TypeId) : Option (Nat × TypeId × Nat) := match P.underlying t with
  | some (.array n e) => (P.info? e).map fun i => (n, e, i.size)
  | _ => none
/-- a field: where it begins, its type, its cells (not none). -/
def fI (P : Program) (t : TypeId) (f : Nat) : Option (Nat × TypeId × Nat) := match P.underlying t with
  | some (.struct fs) => (fs[f]?).bind fun x => (P.info? x.type).bind fun i => if i.size = 0 then none else some (x.offset, x.type, i.size)
  | _ => none

section
variable {P : Program} {w : World}
theorem lI_run {t : TypeId} {g : Bool} {n : Nat} (h : lI P t = some (g, n)) (w : World) : (isAgg t).run P w = .ok g w ∧ (sizeOf t).run P w = .ok n w := by
  unfold lI aggT at h
  obtain ⟨g', h1, h2⟩ := Option.bind_eq_some_iff.1 h
  obtain ⟨d, h3, h4⟩ := Option.map_eq_some_iff.1 h1
  obtain ⟨i, h5, h6⟩ := Option.map_eq_some_iff.1 h2
  simp only [Prod.mk.injEq] at h6
  obtain ⟨rfl, rfl⟩ := h6
  subst h4
  constructor
  · simp only [isAgg, Sem.run_bind, run_underlying h3, Result.andThen_ok]
    cases d <;> rfl
  · simp [sizeOf, run_typeInfo w h5]
theorem tI_inv {t : TypeId} {s b : Nat} {z : List AV} (h : tI P t = some (s, b, z)) : ∃ i zv, P.info? t = some i ∧ i.zero = some zv ∧ i.size = s ∧ i.bytes = b ∧ zv.cells.size = s ∧ z = zv.cells.toList.map .v := by
  unfold tI at h
  obtain ⟨i, h1, h2⟩ := Option.bind_eq_some_iff.1 h
  obtain ⟨zv, h3, h4⟩ := Option.bind_eq_some_iff.1 h2
  split at h4
  · rename_i hs
    simp only [Option.some.injEq, Prod.mk.injEq] at h4
    obtain ⟨rfl, rfl, rfl⟩ := h4
    exact ⟨i, zv, h1, h3, rfl, rfl, hs, rfl⟩
  · cases h4
theorem eI_inv {t e : TypeId} {s b : Nat} {z : List AV} (h : eI P t = some (e, s, b, z)) : P.underlying t = some (.slice e) ∧ tI P e = some (s, b, z) := by
  unfold eI at h
  split at h
  · rename_i e' hu
    obtain ⟨⟨s', b', z'⟩, h1, h2⟩ := Option.map_eq_some_iff.1 h
    simp only [Prod.mk.injEq] at h2
    obtain ⟨rfl, rfl, rfl, rfl⟩ := h2
    exact ⟨hu, h1⟩
  · cases h
theorem aI_inv {t e : TypeId} {n s : Nat} (h : aI P t = some (n, e, s)) : P.underlying t = some (.array n e) ∧ ∃ i, P.info? e = some i ∧ i.size = s := by
  unfold aI at h
  split at h
  · rename_i n' e' hu
    obtain ⟨i, h1, h2⟩ := Option.map_eq_some_iff.1 h
    simp only [Prod.mk.injEq] at h2
    obtain ⟨rfl, rfl, rfl⟩ := h2
    exact ⟨hu, i, h1, rfl⟩
  · cases h
theorem fI_inv {t ft : TypeId} {f off s : Nat} (h : fI P t f = some (off, ft, s)) : ∃ fs x i, P.underlying t = some (.struct fs) ∧ fs[f]? = some x ∧ P.info? x.type = some i ∧ i.size = s ∧ s ≠ 0 ∧ x.offset = off ∧ x.type = ft := by
  unfold fI at h
  split at h
  · rename_i fs hu
    obtain ⟨x, h1, h2⟩ := Option.bind_eq_some_iff.1 h
    obtain ⟨i, h3, h4⟩ := Option.bind_eq_some_iff.1 h2
    split at h4
    · cases h4
    · rename_i hs
      simp only [Option.some.injEq, Prod.mk.injEq] at h4
      obtain ⟨rfl, rfl, rfl⟩ := h4
      exact ⟨fs, x, i, hu, h1, h3, rfl, hs, rfl, rfl⟩
  · cases h
end

/-! ### cells -/
def cur (H : Heap) (o ver : Nat) : Bool := (H o).ver == ver && (H o).live
theorem cur_iff {H : Heap} {o ver : Nat} : cur H o ver = true ↔ (H o).ver = ver ∧ (H o).live = true := by simp [cur]

/-- one cell, surely -/
def leaf (H : Heap) : AV → Bool
  | .v x => x.oneCell'
  | .ro _ | .rd _ | .fn _ _ | .iface _ _ => true
  | .own o ver _ _ _ => cur H o ver
  | .ptr o ver _ => cur H o ver
  | _ => false

def cellsA (H : Heap) : AV → Option (List AV)
  | .agg cs => some cs
  | .v (.agg vs) => some (vs.toList.map .v)
  | x => if leaf H x then some [x] else none

section
variable {w : World} {ok : Nat → Prop} {H : Heap} {α : Nat → Option Nat}
theorem leaf_one {x : AV} {v : Value} (h : Conc w ok H α x v) (hl : leaf H x = true) : v.oneCell' = true := by
  cases h with
  | d x v h =>
    cases h with
    | v x => exact hl
    | agg => simp [leaf] at hl
    | tuple => simp [leaf] at hl
    | bot => simp [leaf] at hl
    | _ => rfl
  | agg => simp [leaf] at hl
  | tuple => simp [leaf] at hl
  | fn => rfl
  | iface => rfl
  | own o ver off n sz v hle h =>
    obtain ⟨h1, h2⟩ := cur_iff.1 hl
    have := h h1.symm h2
    unfold OwnV at this
    split at this
    · rw [this.2.2]; rfl
    · obtain ⟨c, _, h3, _⟩ := this; rw [h3]; rfl
  | ptr o ver off v hle h =>
    obtain ⟨h1, h2⟩ := cur_iff.1 hl
    obtain ⟨b, _, h3⟩ := h h1.symm h2
    rw [h3]; rfl
theorem oneCell_cells {v : Value} (h : v.oneCell' = true) : v.cells = #[v] := by cases v <;> first | rfl | (simp [Value.oneCell'] at h)

theorem cellsA_spec {x : AV} {v : Value} {cs : List AV} (h : Conc w ok H α x v) (hc : cellsA H x = some cs) :
    cs.length = v.cells.size ∧ ∀ (j : Nat) (y : AV) (u : Value), cs[j]? = some y → v.cells[j]? = some u → Conc w ok H α y u := by
  have one : leaf H x = true → cs = [x] → cs.length = v.cells.size ∧ ∀ (j : Nat) (y : AV) (u : Value), cs[j]? = some y → v.cells[j]? = some u → Conc w ok H α y u := by
    intro hl e
    subst e
    rw [oneCell_cells (leaf_one h hl)]
    refine ⟨rfl, fun j y u h1 h2 => ?_⟩
    cases j with
    | zero => simp at h1 h2; subst h1 h2; exact h
    | succ j => simp at h1
  unfold cellsA at hc
  split at hc
  · rename_i cs'
    injection hc with hc
    subst hc
    obtain ⟨vs, rfl, hl, hr⟩ := h.agg_inv
    exact ⟨hl, hr⟩
  · rename_i vs
    injection hc with hc
    subst hc
    have := h.v_inv
    subst this
    refine ⟨by simp [Value.cells], fun j y u h1 h2 => ?_⟩
    simp only [Value.cells, List.getElem?_map, Option.map_eq_some_iff] at h1 h2
    obtain ⟨z, hz, rfl⟩ := h1
    rw [Array.getElem?_toList] at hz
    rw [hz] at h2
    injection h2 with h2
    subst h2
    exact .d _ _ (.v _)
  · split at hc
    · rename_i hl
      injection hc with hc
      exact one hl hc.symm
    · cases hc
end

/-- What cells at a place read as. -/
def CellsAt (w : World) (ok : Nat → Prop) (H : Heap) (α : Nat → Option Nat) (b off : Nat) (cs : List AV) : Prop :=
  ∀ (j : Nat) (x : AV), cs[j]? = some x → ∃ v, w.cell? ⟨b, off + j, none⟩ = some v ∧ Conc w ok H α x v

theorem CellsAt.drop {w : World} {ok : Nat → Prop} {H : Heap} {α : Nat → Option Nat} {b off : Nat} {cs : List AV} (h : CellsAt w ok H α b off cs) (k : Nat) : CellsAt w ok H α b (off + k) (cs.drop k) := by
  intro j x hx
  rw [List.getElem?_drop] at hx
  have := h (k + j) x hx
  rwa [show off + (k + j) = off + k + j by omega] at this
theorem CellsAt.take {w : World} {ok : Nat → Prop} {H : Heap} {α : Nat → Option Nat} {b off : Nat} {cs : List AV} (h : CellsAt w ok H α b off cs) (k : Nat) : CellsAt w ok H α b off (cs.take k) := by
  intro j x hx
  rw [List.getElem?_take] at hx
  split at hx
  · exact h j x hx
  · cases hx

theorem RelObj.cellsAt {w : World} {ok : Nat → Prop} {H : Heap} {α : Nat → Option Nat} {d b : Nat} (h : RelObj w ok H α d) (ha : α d = some b) : CellsAt w ok H α b 0 (H d).cs := by
  unfold RelObj at h
  rw [ha] at h
  obtain ⟨cells, h1, h2, h3⟩ := h
  intro j x hx
  have hj : j < cells.size := Nat.lt_of_lt_of_le (List.getElem?_eq_some_iff.1 hx).1 h2
  refine ⟨cells[j], ?_, h3 j x _ hx (Array.getElem?_eq_getElem hj)⟩
  simp [World.cell?, h1, hj]

/-- the concrete cells -/
theorem CellsAt.vals {w : World} {ok : Nat → Prop} {H : Heap} {α : Nat → Option Nat} {b off : Nat} {cs : List AV} (h : CellsAt w ok H α b off cs) :
    ∃ vs : List Value, vs.length = cs.length ∧ (∀ (j : Nat) (v : Value), vs[j]? = some v → w.cell? (Addr.add ⟨b, off, none⟩ j) = some v) ∧
      ∀ (j : Nat) (x : AV) (v : Value), cs[j]? = some x → vs[j]? = some v → Conc w ok H α x v := by
  refine ⟨(List.range cs.length).map fun j => (w.cell? ⟨b, off + j, none⟩).getD undef, by simp, fun j v hv => ?_, fun j x v hx hv => ?_⟩
  · obtain ⟨i, h1, h2⟩ := List.getElem?_map .. ▸ hv |> Option.map_eq_some_iff.1
    obtain ⟨hlt, rfl⟩ := List.getElem?_eq_some_iff.1 h1
    simp only [List.getElem_range] at h2
    simp only [List.length_range] at hlt
    obtain ⟨v', h3, _⟩ := h j _ (List.getElem?_eq_getElem hlt)
    rw [h3] at h2
    simp only [Option.getD_some] at h2
    rw [Addr.add_lit, h3, h2]
  · obtain ⟨v', h3, h4⟩ := h j x hx
    obtain ⟨i, h1, h2⟩ := List.getElem?_map .. ▸ hv |> Option.map_eq_some_iff.1
    obtain ⟨hlt, rfl⟩ := List.getElem?_eq_some_iff.1 h1
    simp only [List.getElem_range] at h2
    rw [h3] at h2
    simp only [Option.getD_some] at h2
    subst h2
    exact h4

/-! ### what an operation gives -/
def Steps (S : Sys) (O : Origin) (H : Heap) (α : Nat → Option Nat) (w : World) (s : Sem Value) (x : AV) (H' : Heap) : Prop :=
  ∃ v w' α', s.run S.P w = .ok v w' ∧ Base O H' α' w' ∧ LaterS O H α w H' α' w' ∧ Conc w' (okA O w' H' α') H' α' x v
def StepsU (S : Sys) (O : Origin) (H : Heap) (α : Nat → Option Nat) (w : World) (s : Sem Unit) (H' : Heap) : Prop :=
  ∃ w' α', s.run S.P w = .ok () w' ∧ Base O H' α' w' ∧ LaterS O H α w H' α' w'

section
variable {S : Sys} {O : Origin} {H : Heap} {α : Nat → Option Nat} {w : World}
theorem Steps.same (hB : Base O H α w) {s : Sem Value} {x : AV} {v : Value} (hr : s.run S.P w = .ok v w) (hc : Conc w (okA O w H α) H α x v) : Steps S O H α w s x H :=
  ⟨v, w, α, hr, hB, Later.refl _ _ _ _, hc⟩

/-- the cells behind an address -/
def behind (H : Heap) : AV → Option (List AV)
  | .rd cs => some cs
  | .ptr o ver off => if cur H o ver then some ((H o).cs.drop off) else none
  | _ => none
theorem behind_spec (hB : Base O H α w) {x : AV} {v : Value} {cs : List AV} (h : Conc w (okA O w H α) H α x v) (hb : behind H x = some cs) :
    ∃ b off, v = .pointer (some ⟨b, off, none⟩) ∧ CellsAt w (okA O w H α) H α b off cs := by
  unfold behind at hb
  split at hb
  · injection hb with hb
    subst hb
    cases h.rd_inv with
    | rd _ b off vals hok hc hr => exact ⟨b, off, rfl, fun j x hx => ⟨_, hc j x hx, .d _ _ (hr j x hx)⟩⟩
  · rename_i o ver off
    split at hb
    · rename_i hc
      injection hb with hb
      subst hb
      obtain ⟨h1, h2⟩ := cur_iff.1 hc
      obtain ⟨b, ha, rfl⟩ := h.ptr_inv.2 h1.symm h2
      refine ⟨b, off, rfl, ?_⟩
      have := ((hB.obj o h2).cellsAt ha).drop off
      rwa [Nat.zero_add] at this
    · cases hb
  · cases hb

def aLoad (P : Program) (H : Heap) (t : TypeId) (x : AV) : Option AV :=
  match lI P t, behind H x with
  | some (true, sz), some cs => if sz ≤ cs.length then some (.agg (cs.take sz)) else none
  | some (false, _), some cs => cs.head?
  | _, _ => none
theorem aLoad_ok (hB : Base O H α w) {t : TypeId} {x y : AV} {v : Value} (h : Conc w (okA O w H α) H α x v) (he : aLoad S.P H t x = some y) : Steps S O H α w (Instr.loadAt t v) y H := by
  unfold aLoad at he
  split at he
  · rename_i sz cs hl hb
    split at he
    · rename_i hsz
      injection he with he
      subst he
      obtain ⟨b, off, rfl, hc⟩ := behind_spec hB h hb
      obtain ⟨vs, h1, h2, h3⟩ := (hc.take sz).vals
      obtain ⟨r1, r2⟩ := lI_run hl w
      have hlen : (cs.take sz).length = sz := by rw [List.length_take]; omega
      refine Steps.same hB (v := .agg vs.toArray) ?_ (.agg _ _ (by simp [h1]) (fun j x v hx hv => h3 j x v hx (by simpa using hv)))
      have := run_loadCells_list (P := S.P) w ⟨b, off, none⟩ vs h2
      rw [h1, hlen] at this
      simp [Instr.loadAt, Instr.sureAddr, loadVar, r1, r2, this]
    · cases he
  · rename_i sz cs hl hb
    obtain ⟨b, off, rfl, hc⟩ := behind_spec hB h hb
    obtain ⟨r1, r2⟩ := lI_run hl w
    cases cs with
    | nil => cases he
    | cons c cs =>
      injection he with he
      subst he
      obtain ⟨v', h1, h2⟩ := hc 0 c rfl
      refine Steps.same hB (v := v') ?_ h2
      simp only [Nat.add_zero] at h1
      simp [Instr.loadAt, Instr.sureAddr, loadVar, r1, h1]
  · cases he

def aStore (P : Program) (H : Heap) (t : TypeId) (x y : AV) : Option Heap :=
  match x, lI P t, cellsA H y with
  | .ptr o ver off, some (_, sz), some cs =>
    if cur H o ver && cs.length == sz && cs.all (leaf H) && decide (off + sz ≤ (H o).cs.length) then
      some (upd H o ⟨(H o).ver, true, (H o).cs.take off ++ cs ++ (H o).cs.drop (off + sz), (H o).t⟩) else none
  | _, _, _ => none
theorem aStore_ok (hO : OWf S O) (hB : Base O H α w) {t : TypeId} {x y : AV} {v u : Value} {H' : Heap} (h : Conc w (okA O w H α) H α x v) (g : Conc w (okA O w H α) H α y u) (he : aStore S.P H t x y = some H') :
    StepsU S O H α w (Instr.storeAt t v u) H' := by
  unfold aStore at he
  split at he
  · rename_i o ver off gg sz cs hl hcs
    split at he
    · rename_i hcond
      injection he with he
      simp only [Bool.and_eq_true, beq_iff_eq, decide_eq_true_eq, List.all_eq_true] at hcond
      obtain ⟨⟨⟨hcur, hlen⟩, hleaf⟩, hfit⟩ := hcond
      obtain ⟨h1, h2⟩ := cur_iff.1 hcur
      obtain ⟨b, ha, rfl⟩ := h.ptr_inv.2 h1.symm h2
      have ho := hB.obj o h2
      unfold RelObj at ho
      rw [ha] at ho
      obtain ⟨cells, hg, hle, hcc⟩ := ho
      obtain ⟨k1, k2⟩ := cellsA_spec g hcs
      obtain ⟨r1, r2⟩ := lI_run hl w
      have hul : u.cells.toList.length = sz := by rw [Array.length_toList, ← k1, hlen]
      have hst := run_storeCells_at S.P b off (H o).t u.cells.toList 0 cells w hg (by omega) (fun z hz => by
        obtain ⟨j, hj, rfl⟩ := List.getElem_of_mem hz
        have hj' : j < cs.length := by rw [Array.length_toList] at hj; omega
        exact leaf_one (k2 j cs[j] _ (List.getElem?_eq_getElem hj') (by rw [← Array.getElem?_toList]; exact List.getElem?_eq_getElem hj)) (hleaf _ (List.getElem_mem hj')))
      simp only [Nat.add_zero] at hst
      have hW := Base.write hO hB o b h2 ha cells (cells.toList.take off ++ u.cells.toList ++ cells.toList.drop (off + u.cells.toList.length)).toArray hg
        (by simp only [List.size_toArray, List.length_append, List.length_take, List.length_drop, Array.length_toList] at hul ⊢; omega) false ((H o).cs.take off ++ cs ++ (H o).cs.drop (off + sz))
        (by simp only [List.size_toArray, List.length_append, List.length_take, List.length_drop, Array.length_toList] at hul ⊢; omega)
        (fun _ => by simp only [List.length_append, List.length_take, List.length_drop]; omega)
        (fun j x v hx hv => by
          rw [hul] at hv
          simp only [List.getElem?_toArray] at hv
          by_cases c1 : j < off
          · rw [List.append_assoc, List.getElem?_append_left (by simp only [List.length_take, Array.length_toList]; omega), List.getElem?_take_of_lt c1] at hx hv
            exact hcc j x v hx (by rwa [Array.getElem?_toList] at hv)
          · have e1 : ((H o).cs.take off).length = off := by rw [List.length_take]; omega
            have e2 : (cells.toList.take off).length = off := by rw [List.length_take, Array.length_toList]; omega
            rw [List.append_assoc, List.getElem?_append_right (by omega), e1] at hx
            rw [List.append_assoc, List.getElem?_append_right (by omega), e2] at hv
            by_cases c2 : j - off < sz
            · rw [List.getElem?_append_left (by omega)] at hx hv
              exact k2 _ x v hx (by rwa [Array.getElem?_toList] at hv)
            · rw [List.getElem?_append_right (by omega), hlen, List.getElem?_drop] at hx
              rw [List.getElem?_append_right (by omega), hul, List.getElem?_drop, Array.getElem?_toList] at hv
              exact hcc _ x v hx hv)
      subst he
      refine ⟨_, α, ?_, hW.1, hW.2⟩
      simp only [Array.length_toList] at hul
      simp [Instr.storeAt, Instr.sureAddr, storeVar, r2, hul, hst]
    · cases he
  · cases he

def aFieldAddr (P : Program) (H : Heap) (t : TypeId) (x : AV) (f : Nat) : Option AV :=
  match x, fI P t f with
  | .rd cs, some (off, _, _) => some (.rd (cs.drop off))
  | .ptr o ver o', some (off, _, _) => if cur H o ver then some (.ptr o ver (o' + off)) else none
  | _, _ => none
theorem fieldAt_run {t ft : TypeId} {f off s : Nat} (h : fI S.P t f = some (off, ft, s)) (b o : Nat) (w : World) : (Instr.fieldAt t (.pointer (some ⟨b, o, none⟩)) f).run S.P w = .ok (.pointer (some ⟨b, o + off, none⟩)) w := by
  obtain ⟨fs, x, i, h1, h2, h3, h4, h5, rfl, rfl⟩ := fI_inv h
  simp [Instr.fieldAt, run_underlying h1, h2, Instr.sureAddr, fieldPlace, sizeOf, run_typeInfo w h3, h4, h5, Addr.add_lit]
theorem aFieldAddr_ok (hB : Base O H α w) {t : TypeId} {x y : AV} {f : Nat} {v : Value} (h : Conc w (okA O w H α) H α x v) (he : aFieldAddr S.P H t x f = some y) : Steps S O H α w (Instr.fieldAt t v f) y H := by
  unfold aFieldAddr at he
  split at he
  · rename_i cs off ft s hf
    injection he with he
    subst he
    cases h.rd_inv with
    | rd _ b o vals hok hc hr =>
      refine Steps.same hB (fieldAt_run hf b o w) (.d _ _ (.rd _ b (o + off) (fun j => vals (off + j)) hok (fun j x hx => ?_) (fun j x hx => ?_)))
      · rw [List.getElem?_drop] at hx
        rw [Nat.add_assoc]
        exact hc _ _ hx
      · rw [List.getElem?_drop] at hx
        exact hr _ _ hx
  · rename_i o ver o' off ft s hf
    split at he
    · rename_i hcur
      injection he with he
      subst he
      obtain ⟨h1, h2⟩ := cur_iff.1 hcur
      obtain ⟨b, ha, rfl⟩ := h.ptr_inv.2 h1.symm h2
      exact Steps.same hB (fieldAt_run hf b o' w) (.ptr _ _ _ _ (by omega) fun _ _ => ⟨b, ha, rfl⟩)
    · cases he
  · cases he

/-- a part of an aggregate -/
def partA (P : Program) (t : TypeId) (cs : List AV) (off : Nat) : Option AV :=
  match lI P t with
  | some (true, sz) => if off + sz ≤ cs.length then some (.agg ((cs.drop off).take sz)) else none
  | some (false, _) => cs[off]?
  | none => none
theorem partA_ok {ok : Nat → Prop} {t : TypeId} {cs : List AV} {off : Nat} {y : AV} {vs : Array Value} (hl : cs.length = vs.size) (hr : ∀ (j : Nat) (x : AV) (v : Value), cs[j]? = some x → vs[j]? = some v → Conc w ok H α x v)
    (he : partA S.P t cs off = some y) : ∃ v, (part t vs off).run S.P w = .ok v w ∧ Conc w ok H α y v := by
  unfold partA at he
  split at he
  · rename_i sz hL
    split at he
    · rename_i hle
      injection he with he
      subst he
      obtain ⟨r1, r2⟩ := lI_run hL w
      refine ⟨.agg (vs.extract off (off + sz)), by simp [part, r1, r2], .agg _ _ (by simp; omega) fun j x v hx hv => ?_⟩
      rw [List.getElem?_take] at hx
      split at hx
      · rename_i hj
        rw [List.getElem?_drop] at hx
        rw [Array.getElem?_extract] at hv
        split at hv
        · exact hr _ x v hx hv
        · cases hv
      · cases hx
    · cases he
  · rename_i sz hL
    obtain ⟨r1, r2⟩ := lI_run hL w
    have hj : off < vs.size := by have := (List.getElem?_eq_some_iff.1 he).1; omega
    exact ⟨vs[off], by simp [part, r1, hj], hr off y _ he (Array.getElem?_eq_getElem hj)⟩
  · cases he

def aField (P : Program) (t : TypeId) (x : AV) (f : Nat) : Option AV :=
  match x, fI P t f with
  | .agg cs, some (off, ft, _) => partA P ft cs off
  | _, _ => none
theorem aField_ok (hB : Base O H α w) {t : TypeId} {x y : AV} {f : Nat} {v : Value} (h : Conc w (okA O w H α) H α x v) (he : aField S.P t x f = some y) : Steps S O H α w (Instr.field t v f) y H := by
  unfold aField at he
  split at he
  · rename_i cs off ft s hf
    obtain ⟨vs, rfl, hl, hr⟩ := h.agg_inv
    obtain ⟨u, h1, h2⟩ := partA_ok hl hr he
    obtain ⟨fs, x, i, k1, k2, k3, k4, k5, rfl, rfl⟩ := fI_inv hf
    exact Steps.same hB (by simp [Instr.field, run_underlying k1, k2, asAgg, h1]) h2
  · cases he

/-- an element's address -/
def aIdxSl (H : Heap) (sz : Nat) (x : AV) (n : Int) : Option AV :=
  match x with
  | .ro l => if 0 ≤ n ∧ n < (l.length : Int) then (l[n.toNat]?).bind fun cs => if cs.length = sz then some (.rd cs) else none else none
  | .own o ver off m sz' => if (cur H o ver = true ∧ sz = sz') ∧ 0 ≤ n ∧ n < (m : Int) then some (.ptr o ver (off + n.toNat * sz)) else none
  | _ => none
def aIdxAr (H : Heap) (len sz : Nat) (x : AV) (n : Int) : Option AV :=
  if 0 ≤ n ∧ n < (len : Int) then
    match x with
    | .rd cs => some (.rd (cs.drop (n.toNat * sz)))
    | .ptr o ver off => if cur H o ver then some (.ptr o ver (off + n.toNat * sz)) else none
    | _ => none
  else none
def aIndexAddr (P : Program) (H : Heap) (t : TypeId) (x i : AV) : Option AV :=
  match i with
  | .v (.int _ n) =>
    match eI P t with
    | some (_, sz, _, _) => aIdxSl H sz x n
    | none => match aI P t with
      | some (len, _, sz) => aIdxAr H len sz x n
      | none => none
  | _ => none
theorem aIdxSl_ok (hB : Base O H α w) {t e : TypeId} {sz by_ : Nat} {z : List AV} (hE : eI S.P t = some (e, sz, by_, z)) {x y : AV} {v : Value} {k : IntKind} {n : Int} (h : Conc w (okA O w H α) H α x v) (he : aIdxSl H sz x n = some y) :
    Steps S O H α w (Instr.indexAt t v (.int k n)) y H := by
  obtain ⟨hu, ht⟩ := eI_inv hE
  obtain ⟨inf, zv, i1, i2, i3, i4, i5, i6⟩ := tI_inv ht
  unfold aIdxSl at he
  split at he
  · rename_i l
    split at he
    · rename_i hn
      obtain ⟨cs, hcs, he⟩ := Option.bind_eq_some_iff.1 he
      split at he
      · rename_i hlen
        injection he with he
        subst he
        have hd := h.ro_inv
        cases hd with
        | ro0 a c ha => simp at hcs
        | ro _ b off c sz' vals hl hok hsz hc hr =>
          have hsz' : sz' = sz := by rw [← hsz cs (List.mem_of_getElem? hcs), hlen]
          subst hsz'
          refine Steps.same hB (v := .pointer (some ⟨b, off + n.toNat * sz', none⟩)) ?_ (.d _ _ (.rd cs b (off + n.toNat * sz') (vals n.toNat) hok (fun j x hx => ?_) (fun j x hx => hr _ _ j x hcs hx)))
          · simp [Instr.indexAt, asIntOf, run_underlying hu, hn.1, hn.2, sizeOf, run_typeInfo w i1, i3, Addr.add_lit]
          · rw [Nat.add_assoc]
            exact hc _ _ j x hcs hx
      · cases he
    · cases he
  · rename_i o ver off m sz'
    split at he
    · rename_i hcond
      injection he with he
      subst he
      obtain ⟨⟨hcur, rfl⟩, hn0, hn1⟩ := hcond
      obtain ⟨h1, h2⟩ := cur_iff.1 hcur
      have hov := h.own_inv.2 h1.symm h2
      unfold OwnV at hov
      cases ha : α o with
      | none => rw [ha] at hov; simp only at hov; omega
      | some b =>
        rw [ha] at hov
        obtain ⟨c, hmc, rfl, hL, cells, tt, fr, hg, hfit⟩ := hov
        refine Steps.same hB (v := .pointer (some ⟨b, off + n.toNat * sz, none⟩)) ?_ (.ptr _ _ _ _ (by omega) fun _ _ => ⟨b, ha, rfl⟩)
        simp [Instr.indexAt, asIntOf, run_underlying hu, hn0, hn1, sizeOf, run_typeInfo w i1, i3, Addr.add_lit]
    · cases he
  · cases he
theorem aIdxAr_ok (hB : Base O H α w) {t e : TypeId} {len sz : Nat} (hA : aI S.P t = some (len, e, sz)) {x y : AV} {v : Value} {k : IntKind} {n : Int} (h : Conc w (okA O w H α) H α x v) (he : aIdxAr H len sz x n = some y) :
    Steps S O H α w (Instr.indexAt t v (.int k n)) y H := by
  obtain ⟨hu, inf, i1, i2⟩ := aI_inv hA
  unfold aIdxAr at he
  split at he
  · rename_i hn
    split at he
    · rename_i cs
      injection he with he
      subst he
      cases h.rd_inv with
      | rd _ b o vals hok hc hr =>
        refine Steps.same hB (v := .pointer (some ⟨b, o + n.toNat * sz, none⟩)) ?_ (.d _ _ (.rd _ b (o + n.toNat * sz) (fun j => vals (n.toNat * sz + j)) hok (fun j x hx => ?_) (fun j x hx => ?_)))
        · simp [Instr.indexAt, asIntOf, run_underlying hu, hn.1, hn.2, Instr.sureAddr, sizeOf, run_typeInfo w i1, i2, Addr.add_lit]
        · rw [List.getElem?_drop] at hx
          rw [Nat.add_assoc]
          exact hc _ _ hx
        · rw [List.getElem?_drop] at hx
          exact hr _ _ hx
    · rename_i o ver off
      split at he
      · rename_i hcur
        injection he with he
        subst he
        obtain ⟨h1, h2⟩ := cur_iff.1 hcur
        obtain ⟨b, ha, rfl⟩ := h.ptr_inv.2 h1.symm h2
        refine Steps.same hB (v := .pointer (some ⟨b, off + n.toNat * sz, none⟩)) ?_ (.ptr _ _ _ _ (by omega) fun _ _ => ⟨b, ha, rfl⟩)
        simp [Instr.indexAt, asIntOf, run_underlying hu, hn.1, hn.2, Instr.sureAddr, sizeOf, run_typeInfo w i1, i2, Addr.add_lit]
      · cases he
    · cases he
  · cases he
theorem aIndexAddr_ok (hB : Base O H α w) {t : TypeId} {x i y : AV} {v u : Value} (h : Conc w (okA O w H α) H α x v) (g : Conc w (okA O w H α) H α i u) (he : aIndexAddr S.P H t x i = some y) :
    Steps S O H α w (Instr.indexAt t v u) y H := by
  unfold aIndexAddr at he
  split at he
  · rename_i k n
    have := g.v_inv
    subst this
    cases hE : eI S.P t with
    | some q =>
      obtain ⟨e, sz, by_, z⟩ := q
      rw [hE] at he
      exact aIdxSl_ok hB hE h he
    | none =>
      rw [hE] at he
      cases hA : aI S.P t with
      | some q =>
        obtain ⟨len, e, sz⟩ := q
        rw [hA] at he
        exact aIdxAr_ok hB hA h he
      | none => rw [hA] at he; cases he
  · cases he
end
end Go.Abs
