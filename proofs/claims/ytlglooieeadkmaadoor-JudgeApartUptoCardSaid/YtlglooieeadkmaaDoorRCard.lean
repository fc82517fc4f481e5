/- JudgeApart: the contract of its row. -/
import Derived.Test.YtlglooieeadkmaaDoorRLaw6
import Derived.Test.YtlglooieeadkmaaDoorRd0
import Derived.Test.YtlglooieeadkmaaDoorRSh
import Derived.Test.YtlglooieeadkmaaDoorCards
import Derived.Test.YtlglooieeadkmaaDoorTie
import Derived.WalkKit
import Derived.ProofKit
import Derived.OpenVars
import Derived.Carry
import Derived.Stop.LaidErr
import Derived.Deep.DeepHandedRow
import Derived.Lib.LaidTab
set_option linter.unusedVariables false
set_option maxRecDepth 100000
namespace Go.Proofs.YtlglooieeadkmaaDoor.judgeApart
open Go.ChangeShapes Go.WideShapes Go.ChangeAt Go.RowKit Go.Abs
def cv_Told (y : S_Told) : List Value := [.int .i64 y.At, .int .i64 y.Kind, .int .i64 y.ID, .string (str y.Level), .int .i64 y.Seats, .int .i64 y.Why, .int .u64 y.Digest]
theorem laid4 {W : World} (h : laidMetH Tryd.prog Rows.judgeApartUptoRow.laid W) : laidMet Tryd.prog [("math/bits.deBruijn32tab", Rows.laid_math_bits_deBruijn32tab), ("math/bits.deBruijn64tab", Rows.laid_math_bits_deBruijn64tab), ("internal/strconv.uint64pow10", Rows.laid_internal_strconv_uint64pow10), ("unicode/utf8.acceptRanges", Rows.laid_unicode_utf8_acceptRanges), ("unicode/utf8.first", Rows.laid_unicode_utf8_first)] W := by
  unfold laidMetH at h
  have e1 : Rows.judgeApartUptoRow.laid.filter (fun x => x.2.handleName?.isSome) = [] := by kernel_rfl
  rw [e1] at h
  exact h
theorem glob {W : World} (h : laidMetH Tryd.prog Rows.judgeApartUptoRow.laid W) (hs : W.ShapedOpen Tryd.prog) : Glob Tryd.prog W ∧ Tryd.prog.globals.size ≤ W.heap.size := by
  have h1 := laid4 h
  have t64 : ∃ zs, Lib.TabIs Tryd.prog W "math/bits.deBruijn64tab" .u8 zs ∧ zs[15]? = some 4 ∧ zs.length = 64 := by
    refine ⟨[0, 1, 56, 2, 57, 49, 28, 3, 61, 58, 42, 50, 38, 29, 17, 4, 62, 47, 59, 36, 45, 43, 51, 22, 53, 39, 33, 30, 24, 18, 12, 5, 63, 55, 48, 27, 60, 41, 37, 16, 46, 35, 44, 21, 52, 32, 23, 11, 54, 26, 40, 15, 34, 20, 31, 10, 25, 14, 19, 9, 13, 8, 7, 6], ?_, rfl, rfl⟩
    exact Lib.tabIs_of_head (rest := _) (g := 5) (t := 171) (e := 5) (n := 64) (by kernel_rfl) (by kernel_rfl) Tryd.underlying171 Tryd.underlying5 (by kernel_rfl) (by kernel_rfl) h1.tail
  have tp : Lib.TabIs Tryd.prog W "internal/strconv.uint64pow10" .u64 Lib.pow10Tab := by
    have e : (Rows.laid_internal_strconv_uint64pow10 : DataW Unit) = Lib.tabData .u64 Lib.pow10Tab := by kernel_rfl
    have h2 := h1.tail.tail
    rw [e] at h2
    exact Lib.tabIs_of_head (rest := _) (g := 1) (t := 161) (e := 29) (n := 20) (by kernel_rfl) (by kernel_rfl) Tryd.underlying161 Tryd.underlying29 (by kernel_rfl) (by kernel_rfl) h2
  obtain ⟨zs, hz, h15, hzl⟩ := t64
  have hgs : Tryd.prog.globals.size = 6 := by kernel_rfl
  have g5 : ∃ cs t fr, W.heap[5]? = some (.cells cs t fr) ∧ cs = (zs.map fun z => Value.int .u8 z).toArray := by
    have hn : Tryd.prog.globalNamed "math/bits.deBruijn64tab" = some 5 := by kernel_rfl
    unfold Lib.TabIs World.var? at hz
    rw [hn] at hz
    simp only [Option.bind_some] at hz
    split at hz
    · rename_i cs t fr hh
      injection hz with hz
      exact ⟨cs, t, fr, hh, hz⟩
    · cases hz
  obtain ⟨cs, t, fr, hh, hcs⟩ := g5
  obtain ⟨m, hm⟩ := Tryd.laysM146.s1_3 W hs
  refine ⟨⟨⟨0, m, by rw [hgs]; omega, by kernel_rfl, hm⟩, ⟨1, by rw [hgs]; omega, by kernel_rfl, tp⟩, 5, by rw [hgs]; omega, by kernel_rfl, ?_⟩, ?_⟩
  · simp only [World.cell?, hh, hcs]
    simp [h15]
  · have := (Array.getElem?_eq_some_iff.1 hh).1
    omega
section
variable {H : Type} {enc : TypeId × Value → H} {W : World}
theorem int_read {k : IntKind} {t : TypeId} (ht : Tryd.prog.underlying t = some (.int k)) {fuel : Nat} {cs : List Value} {x : DataW H × List MemPlace} (h : DataW.trod enc Tryd.prog W 0 (fun _ => true) true fuel t cs = some x) : ∃ n, cs = [.int k n] ∧ (Lit.int k n).wf = true ∧ x.1 = .lit (.int k n) := by
  cases fuel with
  | zero => cases h
  | succ fuel =>
    unfold DataW.trod at h
    rw [ht] at h
    split at h
    all_goals (try (rename_i heq; cases heq; done))
    all_goals (try (rename_i heq _; cases heq; done))
    all_goals first
      | (rename_i k1 k' n heq
         injection heq with heq
         injection heq with heq
         subst heq
         split at h
         · rename_i hc
           injection h with h
           exact ⟨n, by rw [hc.1], hc.2, by rw [← h]⟩
         · cases h)
      | cases h
theorem str_read {t : TypeId} (ht : Tryd.prog.underlying t = some .string) {fuel : Nat} {cs : List Value} {x : DataW H × List MemPlace} (h : DataW.trod enc Tryd.prog W 0 (fun _ => true) true fuel t cs = some x) : ∃ s, cs = [.string (str s)] ∧ x.1 = .lit (.string s) := by
  cases fuel with
  | zero => cases h
  | succ fuel =>
    unfold DataW.trod at h
    rw [ht] at h
    split at h
    all_goals (try (rename_i heq; cases heq; done))
    all_goals (try (rename_i heq _; cases heq; done))
    all_goals first
      | (rename_i s heq
         split at h
         · injection h with h
           exact ⟨bs s, by simp, by rw [← h]; rfl⟩
         · cases h)
      | cases h
def okTold (y : S_Told) (z : DataW H) : Prop := ((Lit.int .i64 y.At).wf = true ∧ (Lit.int .i64 y.ID).wf = true ∧ (Lit.int .i64 y.Seats).wf = true ∧ (Lit.int .i64 y.Why).wf = true ∧ (Lit.int .u64 y.Digest).wf = true) ∧
  ∃ d0 d1 d2 d4 d5 d6, z = .agg [d0, d1, d2, .lit (.string y.Level), d4, d5, d6]
theorem told_read {fuel : Nat} {cs : List Value} {x : DataW H × List MemPlace} (h : DataW.trod enc Tryd.prog W 0 (fun _ => true) true fuel 31 cs = some x) : ∃ y : S_Told, cs = cv_Told y ∧ okTold y x.1 := by
  cases fuel with
  | zero => cases h
  | succ fuel =>
    have hc : Tryd.prog.cellsOf 31 = 7 := by kernel_rfl
    have c3 : Tryd.prog.cellsOf 3 = 1 := by kernel_rfl
    have c9 : Tryd.prog.cellsOf 9 = 1 := by kernel_rfl
    have c26 : Tryd.prog.cellsOf 26 = 1 := by kernel_rfl
    have c29 : Tryd.prog.cellsOf 29 = 1 := by kernel_rfl
    unfold DataW.trod at h
    rw [Tryd.underlying31] at h
    simp only [hc] at h
    split at h
    · rename_i hl
      obtain ⟨xs, h1, h2⟩ := Option.map_eq_some_iff.1 h
      match cs, hl with
      | [a0, a1, a2, a3, a4, a5, a6], _ =>
        simp only [List.mapM_cons, List.mapM_nil, c3, c9, c26, c29, Option.bind_eq_bind, Option.bind_eq_some_iff, Option.pure_def, Option.some.injEq, List.drop_zero, List.drop_succ_cons, List.take_succ_cons, List.take_zero] at h1
        obtain ⟨x0, g0, _, ⟨x1, g1, _, ⟨x2, g2, _, ⟨x3, g3, _, ⟨x4, g4, _, ⟨x5, g5, _, ⟨x6, g6, _, rfl, rfl⟩, rfl⟩, rfl⟩, rfl⟩, rfl⟩, rfl⟩, rfl⟩ := h1
        obtain ⟨n0, e0, w0, r0⟩ := int_read Tryd.underlying3 g0
        obtain ⟨n1, e1, w1, r1⟩ := int_read Tryd.underlying3 g1
        obtain ⟨n2, e2, w2, r2⟩ := int_read Tryd.underlying3 g2
        obtain ⟨s3, e3, r3⟩ := str_read Tryd.underlying9 g3
        obtain ⟨n4, e4, w4, r4⟩ := int_read Tryd.underlying3 g4
        obtain ⟨n5, e5, w5, r5⟩ := int_read Tryd.underlying26 g5
        obtain ⟨n6, e6, w6, r6⟩ := int_read Tryd.underlying29 g6
        injection e0 with e0; injection e1 with e1; injection e2 with e2; injection e3 with e3; injection e4 with e4; injection e5 with e5; injection e6 with e6
        refine ⟨⟨n0, n1, n2, s3, n4, n5, n6⟩, by rw [e0, e1, e2, e3, e4, e5, e6]; rfl, ⟨w0, w2, w4, w5, w6⟩, x0.1, x1.1, x2.1, x4.1, x5.1, x6.1, ?_⟩
        rw [← h2]
        simp [r3]
    · cases h
end
/-- as the kit's post_of_same: what is asked of frozen cells is asked of the places that were read -/
theorem post_of_below {H : Type} {enc : TypeId × Value → H} {P : Program} {f : Func} {s : ChangeSpec} {apart fresh handsOn again : Bool} {W W' : World} {args : Array Value} {v : Value} {ds gs : List (DataW H)} {before pa pv : List MemPlace}
    (hW : DataW.Whole enc P f.params.toList s.vars apart W args.toList ds gs before) (hb : RowKit.Below W.heap.size W W')
    (hres : ∀ (b : Nat) (sp : Nat → Bool) (hd : Bool), DataW.TrodAll enc P W' b sp hd f.resultTypes.toList (v.resultList f.resultTypes.size) (s.fn H (ds ++ gs)).results [])
    (hargs : ∀ sp : Nat → Bool, (∀ p ∈ before, sp p.block = true) → DataW.TrodAll enc P W' 0 sp true f.params.toList args.toList (s.fn H (ds ++ gs)).args pa)
    (hvars : ∀ sp : Nat → Bool, (∀ p ∈ before, sp p.block = true) → DataW.TrodVars enc P W' sp s.vars (s.fn H (ds ++ gs)).vars pv)
    (hps : before = pa ++ pv)
    (hok : ∀ (j : Nat) (t : TypeId) (r : Value), f.resultTypes[j]? = some t → (v.resultList f.resultTypes.size)[j]? = some r → Value.okWide P W' .any 0 t r) :
    s.post enc P f apart fresh handsOn again W args v W' := by
  have hold : ∀ p ∈ before, (fun b => decide (b < W.heap.size)) p.block = true := fun p hp => by simpa using hW.lt p hp
  have hlt : ∀ p ∈ before, p.block < W.heap.size := fun p hp => hW.lt p hp
  refine ⟨ds, gs, before, [], pa, pv, hW, hres _ _ _, hargs _ hold, hvars _ hold, World.keptBut_mono (fun p hp => ⟨hp, ?_⟩) (hb.frame (· ∈ before)), fun _ => ?_⟩
  · rw [hps, List.mem_append] at hp
    exact Or.inr hp
  · obtain ⟨_, _, _, _, _, hz, hn⟩ := hW
    refine ⟨hok, _, _, ([] ++ pa) ++ pv, ⟨[] ++ pa, pv, trodAll_append (hargs _ (fun _ _ => rfl)) (hres _ _ _), hvars _ (fun _ _ => rfl), rfl, ?_, ?_⟩, ?_⟩
    · intro b off hp
      have hp : MemPlace.cell b off ∈ before := by rw [hps]; simpa using hp
      rw [hb.frozen (p := ⟨b, off, none⟩) (hlt _ hp)]
      exact hz b off hp
    · intro ha
      have := hn ha
      rw [hps] at this
      simpa using this
    · intro p hp _
      rw [hps]
      simpa using hp
theorem bulk_mem {H : Type} : ∀ {l : List (DataW H)} {d : DataW H}, d ∈ l → Rows.uptoBulk d ≤ Rows.uptoBulkAll l
  | x :: r, d, h => by
    simp only [Rows.uptoBulkAll]
    rcases List.mem_cons.1 h with rfl | h
    · omega
    · have := bulk_mem h; omega
theorem laidOut : laidOutB Tryd.prog = true := by kernel_rfl
theorem told_ok {H : Type} {l : List S_Told} {d : DataW H} (hb : Rows.uptoBulk d ≤ 1048576) (hd : (l = [] ∧ d = .nil) ∨ ∃ elems rest, d = .slice elems rest ∧ elems.length = l.length ∧ ∀ (i : Nat) (y : S_Told) (z : DataW H), l[i]? = some y → elems[i]? = some z → okTold y z) : ∀ t ∈ l, okT t := by
  intro t ht
  rcases hd with ⟨rfl, _⟩ | ⟨elems, rest, rfl, hl, hz⟩
  · simp at ht
  · obtain ⟨i, hi⟩ := List.getElem?_of_mem ht
    have hil := (List.getElem?_eq_some_iff.1 hi).1
    have hz' := hz i t elems[i] hi (List.getElem?_eq_getElem (by omega))
    obtain ⟨⟨w0, w2, w4, w5, w6⟩, d0, d1, d2, d4, d5, d6, he⟩ := hz'
    have hm : elems[i] ∈ elems := List.getElem_mem (by omega)
    have h1 := bulk_mem hm
    rw [he] at h1
    simp only [Rows.uptoBulk, Rows.uptoBulkAll] at h1 hb
    have b0 := bounds_i64 w0
    have b2 := bounds_i64 w2
    have b4 := bounds_i64 w4
    have b5 := bounds_i64 w5
    have b6 := bounds_u64 w6
    exact ⟨by omega, by omega, by omega, by omega, by omega, by omega, by omega⟩
theorem contract (H : Type) (enc : TypeId × Value → H) (W : World) (base : Nat) (args : Array Value) (ds gs : List (DataW H)) (before : List MemPlace)
    (hval : ∀ (j : Nat) t v, Tryd.f3.params[j]? = some t → args[j]? = some v → Value.okWide Tryd.prog W .any base t v)
    (hW : DataW.Whole enc Tryd.prog Tryd.f3.params.toList Rows.judgeApartSpec.vars false W args.toList ds gs before) (hk : Rows.uptoSmall H (ds ++ gs) = true) (hL : laidMetH Tryd.prog Rows.judgeApartUptoRow.laid W) (hs : W.ShapedOpen Tryd.prog) :
    Calls Tryd.prog 3 args W fun e W' => ∃ v, e = .returned v ∧ Rows.judgeApartSpec.post enc Tryd.prog Tryd.f3 false true false false W args v W' := by
  have hW' := hW
  obtain ⟨p, q, hA0, hV, rfl, hfz, hnd⟩ := hW
  have hA : DataW.TrodAll enc Tryd.prog W 0 (fun _ => true) true Tryd.f3.params.toList args.toList ds p := hA0
  rw [Tryd.params3] at hA hval
  obtain ⟨v0, vs0, d0, ds0, p0, q0, hargs, rfl, rfl, h0, r0⟩ := trodAll_cons hA
  obtain ⟨v1, vs1, d1, ds1, p1, q1, hvs, rfl, rfl, h1, r1⟩ := trodAll_cons r0
  obtain ⟨rfl, rfl, rfl⟩ := trodAll_nil r1
  subst hvs
  obtain rfl : args = #[v0, v1] := by cases args; simp_all
  obtain ⟨rfl, rfl⟩ := trodVars_none hV
  obtain ⟨id, rfl, rfl, rfl, hid⟩ := open_int Tryd.underlying3 (hval 1 3 v1 rfl rfl) h1
  obtain ⟨l, hvl, hdl⟩ := rows_read (enc := enc) (sz := 7) (cv := cv_Told) (okβ := okTold) Tryd.underlying22 (by kernel_rfl) (hval 0 22 v0 rfl rfl) h0 (fun fuel cs x h => told_read h)
  clear hA0
  have hbulk : Rows.uptoBulk d0 ≤ 1048576 := by
    have := of_decide_eq_true hk
    simp only [List.append_nil, Rows.uptoBulkAll] at this
    omega
  have hok := told_ok hbulk hdl
  obtain ⟨hG, hgt⟩ := glob hL hs
  have hpure := F_usherlaw29_JudgeApart_ok (apart_true l id hok)
  unfold APure at hpure
  rw [sys_P, sys_G, sys_gt] at hpure
  have hcd : ConcD W (fun b => b < W.heap.size) (.ro (List.map c_Told l)) v0 := by
    rcases hvl with ⟨rfl, rfl⟩ | ⟨b, off, c, rfl, hlc, hb, hcell⟩
    · exact .ro0 _ _ (fun x hx => by cases hx)
    · have hlm : (List.map c_Told l).length = l.length := by simp
      have key : ∀ {i : Nat} {cs : List AV} {j : Nat} {x : AV}, (List.map c_Told l)[i]? = some cs → cs[j]? = some x → ∃ y u, l[i]? = some y ∧ (cv_Told y)[j]? = some u ∧ x = .v u := by
        intro i cs j x h1 h2
        simp only [List.getElem?_map, Option.map_eq_some_iff] at h1
        obtain ⟨y, h1, rfl⟩ := h1
        have e : c_Told y = (cv_Told y).map AV.v := rfl
        rw [e, List.getElem?_map, Option.map_eq_some_iff] at h2
        obtain ⟨u, h2, rfl⟩ := h2
        exact ⟨y, u, h1, h2, rfl⟩
      have := ConcD.ro (w := W) (ok := fun b => b < W.heap.size) (List.map c_Told l) b off c 7 (fun i j => ((l[i]?.map cv_Told).getD []).getD j undef) (by rw [hlm]; exact hlc) hb (by intro cs hcs; obtain ⟨y, _, rfl⟩ := List.mem_map.1 hcs; rfl)
        (fun i cs j x h1 h2 => by
          obtain ⟨y, u, h3, h4, rfl⟩ := key h1 h2
          rw [hcell i y h3 j u h4, h3]
          simp [List.getD, h4])
        (fun i cs j x h1 h2 => by
          obtain ⟨y, u, h3, h4, rfl⟩ := key h1 h2
          rw [h3]
          simp only [Option.map_some, Option.getD_some, List.getD, h4]
          exact .v u)
      rw [hlm] at this
      exact this
  have hcl : ConcDL W (fun b => b < W.heap.size) [.ro (List.map c_Told l), I id] #[v0, .int .i64 id] := by
    refine ⟨rfl, fun j x v h1 h2 => ?_⟩
    match j with
    | 0 =>
      simp at h1 h2
      subst h1 h2
      exact hcd
    | 1 =>
      simp at h1 h2
      subst h1 h2
      exact .v _
    | j + 2 => simp at h1
  refine (hpure.2 W _ _ hG hgt (fun b hb => hb) hcl).mono fun e W' ⟨v, he, hb, hcv⟩ => ?_
  subst he
  have hv : v = .bool true := by cases hcv; rfl
  subst hv
  have hlt : ∀ x ∈ p0, x.block < W.heap.size := fun x hx => hW'.lt x (by simp [hx])
  refine ⟨_, rfl, post_of_below (pa := p0) (pv := []) hW' hb (fun _ _ _ => trodAll_cons_mk (shut_bool Tryd.underlying4 _) trodAll_mk0) (fun sp hsp => ?_) (fun _ _ => rfl) (by simp) (ok_one (by kernel_rfl) rfl (okWide_bool_mk Tryd.underlying4 _))⟩
  have g0 : DataW.Trod enc Tryd.prog W' 0 sp true 22 v0 d0 p0 := WideElems.Trod_stays laidOut (by kernel_rfl) (of_decide_eq_true (by kernel_rfl)) h0 (fun x hx => hb.same (hlt x hx)) (fun x hx => hsp x (by simp [hx]))
  have := trodAll_cons_mk g0 (trodAll_cons_mk (shut_int (enc := enc) (w := W') (base := 0) (spare := sp) (held := true) Tryd.underlying3 hid) trodAll_mk0)
  simp only [List.append_nil] at this
  exact this
theorem own : ownKnob Tryd.prog.godebug = none := by kernel_rfl
end Go.Proofs.YtlglooieeadkmaaDoor.judgeApart
