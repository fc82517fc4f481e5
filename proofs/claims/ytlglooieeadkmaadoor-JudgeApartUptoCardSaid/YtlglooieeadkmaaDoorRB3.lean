import Derived.Test.YtlglooieeadkmaaDoorRT
set_option linter.unusedVariables false
set_option linter.unusedSimpArgs false
set_option maxRecDepth 100000
set_option maxHeartbeats 4000000
namespace Go.Abs
open Go Go.RowKit Go.Proofs
/- usher/book.find$1 -/
def b84 (a0 a1 : AV) (H : Heap) (K : AV → Heap → Prop) : Prop :=
hK (aBox H 2 91 a0) fun t2 H =>
pK (fa (some 0) H t2) fun t4 =>
pK (ld (some (false, 1)) H t4) fun t5 =>
pK (ld (some (false, 1)) H a1) fun t6 =>
pK (bn .prim .eql t5 t6) fun t7 =>
K t7 H
theorem w84 (a0 a1 : AV) (H : Heap) (K : AV → Heap → Prop) (h : b84 a0 a1 H K) : ACall sys0 84 [a0, a1] H K :=
  ACall.body3 0 (drawW_ok (ck := ck0) follows0) .o (g := 84) (fn := Tryd.f84) (c := cOf Tryd.f84) (by kernel_rfl) (by kernel_rfl) (by kernel_rfl) (by kernel_rfl) (by kernel_rfl) (B := b84 a0 a1 H K) (by kernel_rfl) h

/- usher/book.find -/
def b64 (a0 a1 : AV) (H : Heap) (K : AV → Heap → Prop) : Prop :=
hK (aBox H 3 3 a1) fun t3 H =>
cK sys0 (.fn 83 []) [a0, (.fn 84 [t3])] H fun t7 H =>
K t7 H
theorem w64 (a0 a1 : AV) (H : Heap) (K : AV → Heap → Prop) (h : b64 a0 a1 H K) : ACall sys0 64 [a0, a1] H K :=
  ACall.body3 0 (drawW_ok (ck := ck0) follows0) .o (g := 64) (fn := Tryd.f64) (c := cOf Tryd.f64) (by kernel_rfl) (by kernel_rfl) (by kernel_rfl) (by kernel_rfl) (by kernel_rfl) (B := b64 a0 a1 H K) (by kernel_rfl) h

/- slices.Clone[[]usher/api.Entry,usher/api.Entry] -/
def b65 (fr : Nat) (a0 : AV) (H : Heap) (K : AV → Heap → Prop) : Prop :=
pK (bn .prim .eql a0 N0) fun t4 =>
condK t4 (K N0 H) (hK (bS (some (91, 3, z91)) H (fr + 5) 0 []) fun t5 H =>
hK (ap (some (91, 3)) H (fr + 7) t5 a0) fun t7 H =>
K t7 H)
theorem w65 (fr : Nat) (a0 : AV) (H : Heap) (K : AV → Heap → Prop) (h : b65 fr a0 H K) : ACall sys0 65 [a0] H K :=
  ACall.body3 fr (drawW_ok (ck := ck0) follows0) .o (g := 65) (fn := Tryd.f65) (c := cOf Tryd.f65) (by kernel_rfl) (by kernel_rfl) (by kernel_rfl) (by kernel_rfl) (by kernel_rfl) (B := b65 fr a0 H K) (by kernel_rfl) h

/- usher/book.Begin -/
def b39_y1 (K : AV → Heap → Prop) (vs : List AV) (H : Heap) : Prop :=
K (.tuple [(g vs 0), (g vs 1)]) H
def b39 (a0 a1 : AV) (H : Heap) (K : AV → Heap → Prop) : Prop :=
hK (aBox H 3 91 a1) fun t3 H =>
pK (fa (some 0) H t3) fun t6 =>
pK (ld (some (false, 1)) H t6) fun t7 =>
pK (bn .prim .lss t7 (I 0)) fun t8 =>
grdK t8 false H (fun j => pK (fa (some 0) H t3) fun x => j x H) fun t10 H =>
grdK t8 false H (fun j => pK (ld (some (false, 1)) H t10) fun x => j x H) fun t11 H =>
grdK t8 false H (fun j => pK (bn .prim .gtr t11 (I 999999999)) fun x => j x H) fun t12 H =>
pK (pick t8 (B true) t12) fun t13 =>
grdK t13 false H (fun j => pK (fa (some 1) H t3) fun x => j x H) fun t15 H =>
grdK t13 false H (fun j => pK (ld (some (false, 1)) H t15) fun x => j x H) fun t16 H =>
grdK t13 false H (fun j => cK sys0 (.fn 63 []) [t16] H j) fun t17 H =>
grdK t13 false H (fun j => pK (un .not t17) fun x => j x H) fun t18 H =>
pK (pick t13 (B true) t18) fun t19 =>
condK t19 (K (.tuple [N0, (I 1)]) H) (pK (fa (some 0) H t3) fun t21 =>
pK (ld (some (false, 1)) H t21) fun t22 =>
cK sys0 (.fn 64 []) [a0, t22] H fun t23 H =>
pK (bn .prim .geq t23 (I 0)) fun t24 =>
condK t24 (K (.tuple [N0, (I 5)]) H) (joinK (fun k1 =>
pairK (cK sys0 (.fn 65 []) [a0] H fun t26 H =>
pK (ld (some (true, 3)) H t3) fun t27 =>
hK (bS (some (91, 3, z91)) H 28 1 [(0, t27)]) fun t28 H =>
hK (ap (some (91, 3)) H 29 t26 t28) fun t29 H =>
k1 [t29, (I 0)] H) (pK (ld (some (true, 3)) H t3) fun t27 =>
pairK (cK sys0 (.fn 65 []) [a0] H fun t26 H =>
hK (bS (some (91, 3, z91)) H 28 1 [(0, t27)]) fun t28 H =>
hK (ap (some (91, 3)) H 29 t26 t28) fun t29 H =>
k1 [t29, (I 0)] H) (hK (bS (some (91, 3, z91)) H 28 1 [(0, t27)]) fun t28 H =>
cK sys0 (.fn 65 []) [a0] H fun t26 H =>
hK (ap (some (91, 3)) H 29 t26 t28) fun t29 H =>
k1 [t29, (I 0)] H))) (b39_y1 K)))
theorem w39 (a0 a1 : AV) (H : Heap) (K : AV → Heap → Prop) (h : b39 a0 a1 H K) : ACall sys0 39 [a0, a1] H K :=
  ACall.body3 0 (drawW_ok (ck := ck0) follows0) (.n .o (.n .o (.n .o (.j [4, 5] .o .o)))) (g := 39) (fn := Tryd.f39) (c := cOf Tryd.f39) (by kernel_rfl) (by kernel_rfl) (by kernel_rfl) (by kernel_rfl) (by kernel_rfl) (B := b39 a0 a1 H K) (by kernel_rfl) h

/- usher/book.Find -/
def b40 (a0 a1 : AV) (H : Heap) (K : AV → Heap → Prop) : Prop :=
hK (al (some z91) H 4 91) fun t4 H =>
cK sys0 (.fn 64 []) [a0, a1] H fun t9 H =>
pK (bn .prim .lss t9 (I 0)) fun t11 =>
condK t11 (pK (bd (some bl91) H []) fun t12 =>
sK (st (some (true, 3)) H t4 t12) fun H =>
pK (ld (some (true, 3)) H t4) fun r0 =>
K (.tuple [r0, (B false)]) H) (pK (ia (.sl 3) H a0 t9) fun t15 =>
pK (ld (some (true, 3)) H t15) fun t16 =>
sK (st (some (true, 3)) H t4 t16) fun H =>
pK (ld (some (true, 3)) H t4) fun r0 =>
K (.tuple [r0, (B true)]) H)
theorem w40 (a0 a1 : AV) (H : Heap) (K : AV → Heap → Prop) (h : b40 a0 a1 H K) : ACall sys0 40 [a0, a1] H K :=
  ACall.body3 0 (drawW_ok (ck := ck0) follows0) .o (g := 40) (fn := Tryd.f40) (c := cOf Tryd.f40) (by kernel_rfl) (by kernel_rfl) (by kernel_rfl) (by kernel_rfl) (by kernel_rfl) (B := b40 a0 a1 H K) (by kernel_rfl) h

/- usher/book.Move -/
def b41 (a0 a1 a2 : AV) (H : Heap) (K : AV → Heap → Prop) : Prop :=
cK sys0 (.fn 64 []) [a0, a1] H fun t11 H =>
pK (bn .prim .lss t11 (I 0)) fun t13 =>
condK t13 (K (.tuple [N0, (I 6)]) H) (cK sys0 (.fn 63 []) [a2] H fun t15 H =>
pK (un .not t15) fun t16 =>
grdK t16 false H (fun j => j a2 H) fun t18 H =>
grdK t16 false H (fun j => j a0 H) fun t19 H =>
grdK t16 false H (fun j => j t11 H) fun t20 H =>
grdK t16 false H (fun j => pK (ia (.sl 3) H t19 t20) fun x => j x H) fun t21 H =>
grdK t16 false H (fun j => pK (fa (some 1) H t21) fun x => j x H) fun t22 H =>
grdK t16 false H (fun j => pK (ld (some (false, 1)) H t22) fun x => j x H) fun t23 H =>
grdK t16 false H (fun j => pK (bn .prim .leq t18 t23) fun x => j x H) fun t24 H =>
pK (pick t16 (B true) t24) fun t25 =>
condK t25 (K (.tuple [N0, (I 9)]) H) (cK sys0 (.fn 65 []) [a0] H fun t27 H =>
pK (ia (.sl 3) H t27 t11) fun t31 =>
pK (fa (some 1) H t31) fun t32 =>
sK (st (some (false, 1)) H t32 a2) fun H =>
K (.tuple [t27, (I 0)]) H))
theorem w41 (a0 a1 a2 : AV) (H : Heap) (K : AV → Heap → Prop) (h : b41 a0 a1 a2 H K) : ACall sys0 41 [a0, a1, a2] H K :=
  ACall.body3 0 (drawW_ok (ck := ck0) follows0) .o (g := 41) (fn := Tryd.f41) (c := cOf Tryd.f41) (by kernel_rfl) (by kernel_rfl) (by kernel_rfl) (by kernel_rfl) (by kernel_rfl) (B := b41 a0 a1 a2 H K) (by kernel_rfl) h

/- usher/judge.note -/
def b19_y1 (K : AV → Heap → Prop) (k1 : List AV → Heap → Prop) (vs : List AV) (H : Heap) : Prop :=
condK (g vs 4) (pK (fa (some 2) H (g vs 1)) fun t29 =>
pK (ld (some (false, 1)) H t29) fun t30 =>
pK (fa (some 3) H (g vs 1)) fun t31 =>
pK (ld (some (false, 1)) H t31) fun t32 =>
pK (bd (some bl91) H [(0, t30), (1, (I 3)), (2, t32)]) fun t33 =>
cK sys0 (.fn 39 []) [(g vs 0), t33] H fun t34 H =>
pK (ex t34 0) fun t35 =>
pK (ex t34 1) fun t36 =>
k1 [t35, t36] H) (pK (bn .prim .eql (g vs 3) (I 5)) fun t38 =>
condK t38 (pK (fa (some 2) H (g vs 1)) fun t41 =>
pK (ld (some (false, 1)) H t41) fun t42 =>
cK sys0 (.fn 40 []) [(g vs 0), t42] H fun t43 H =>
pK (ex t43 0) fun t44 =>
pK (ex t43 1) fun t45 =>
hK (al (some z91) H 7 91) fun t7 H =>
sK (st (some (true, 3)) H t7 t44) fun H =>
pK (un .not t45) fun t47 =>
grdK t47 false H (fun j => pK (fa (some 2) H t7) fun x => j x H) fun t49 H =>
grdK t47 false H (fun j => pK (ld (some (false, 1)) H t49) fun x => j x H) fun t50 H =>
grdK t47 false H (fun j => pK (fa (some 3) H (g vs 1)) fun x => j x H) fun t51 H =>
grdK t47 false H (fun j => pK (ld (some (false, 1)) H t51) fun x => j x H) fun t52 H =>
grdK t47 false H (fun j => pK (bn .prim .neq t50 t52) fun x => j x H) fun t53 H =>
pK (pick t47 (B true) t53) fun t54 =>
condK t54 (K (.tuple [N0, (B false)]) H) (pK (fa (some 2) H (g vs 1)) fun t57 =>
pK (ld (some (false, 1)) H t57) fun t58 =>
cK sys0 (.fn 41 []) [(g vs 0), t58, (I 3)] H fun t59 H =>
pK (ex t59 0) fun t60 =>
pK (ex t59 1) fun t61 =>
k1 [t60, t61] H)) (k1 [(g vs 0), (g vs 2)] H))
def b19_y2 (K : AV → Heap → Prop) (vs : List AV) (H : Heap) : Prop :=
pK (bn .prim .eql (g vs 1) (I 0)) fun t64 =>
K (.tuple [(g vs 0), t64]) H
def b19 (a0 a1 : AV) (H : Heap) (K : AV → Heap → Prop) : Prop :=
hK (aBox H 3 31 a1) fun t3 H =>
joinK (fun k1 =>
pK (fa (some 1) H t3) fun t9 =>
pK (ld (some (false, 1)) H t9) fun t10 =>
pK (bn .prim .eql t10 (I 1)) fun t12 =>
condK t12 (pK (fa (some 2) H t3) fun t15 =>
pK (ld (some (false, 1)) H t15) fun t16 =>
pK (fa (some 3) H t3) fun t17 =>
pK (ld (some (false, 1)) H t17) fun t18 =>
pK (bd (some bl91) H [(0, t16), (1, (I 2)), (2, t18)]) fun t19 =>
cK sys0 (.fn 39 []) [a0, t19] H fun t20 H =>
pK (ex t20 0) fun t21 =>
pK (ex t20 1) fun t22 =>
k1 [t21, t22] H) (joinK (fun k2 =>
pK (bn .prim .eql t10 (I 2)) fun t24 =>
condK t24 (k2 [a0, t3, (I 0), t10, t24] H) (pK (bn .prim .eql t10 (I 3)) fun t25 =>
condK t25 (k2 [a0, t3, (I 0), t10, t25] H) (pK (bn .prim .eql t10 (I 4)) fun t26 =>
k2 [a0, t3, (I 0), t10, t26] H))) (b19_y1 K k1))) (b19_y2 K)
theorem w19 (a0 a1 : AV) (H : Heap) (K : AV → Heap → Prop) (h : b19 a0 a1 H K) : ACall sys0 19 [a0, a1] H K :=
  ACall.body3 0 (drawW_ok (ck := ck0) follows0) (.n .o (.n .o (.j [0, 6] (.n .o (.n (.n .o (.n .o (.j [0, 3, 6, 10, 23] .o .o))) .o)) .o))) (g := 19) (fn := Tryd.f19) (c := cOf Tryd.f19) (by kernel_rfl) (by kernel_rfl) (by kernel_rfl) (by kernel_rfl) (by kernel_rfl) (B := b19 a0 a1 H K) (by kernel_rfl) h

/- usher/judge.Look -/
def b9_l1 (K : AV → Heap → Prop) (k1 : List AV → Heap → Prop) (vs : List AV) (H : Heap) : Prop :=
pK (bn .prim .lss (g vs 4) (g vs 3)) fun t19 =>
condK t19 (pK (ia (.sl 1) H (g vs 2) (g vs 4)) fun t21 =>
pK (ld (some (false, 1)) H t21) fun t22 =>
cK sys0 (.fn 18 []) [t22] H fun t25 H =>
pK (ex t25 0) fun t26 =>
pK (ex t25 1) fun t27 =>
hK (al (some z31) H 8 31) fun t8 H =>
sK (st (some (true, 7)) H t8 t26) fun H =>
pK (bn .prim .neq t27 (I 0)) fun t29 =>
condK t29 (pK (bn .prim .add (g vs 4) (I 1)) fun t31 =>
K (.tuple [t31, t27]) H) (pK (ld (some (true, 7)) H t8) fun t35 =>
cK sys0 (.fn 19 []) [(g vs 0), t35] H fun t36 H =>
pK (ex t36 0) fun t37 =>
pK (ex t36 1) fun t38 =>
pK (fa (some 0) H t8) fun t39 =>
pK (ld (some (false, 1)) H t39) fun t40 =>
pK (bn .prim .lss t40 (g vs 1)) fun t42 =>
grdK t42 false H (fun j => j t38 H) fun t44 H =>
grdK t42 false H (fun j => pK (un .not t44) fun x => j x H) fun t45 H =>
pK (pick t42 (B true) t45) fun t46 =>
condK t46 (pK (bn .prim .add (g vs 4) (I 1)) fun t48 =>
K (.tuple [t48, (I 13)]) H) (pK (fa (some 0) H t8) fun t50 =>
pK (ld (some (false, 1)) H t50) fun t51 =>
pK (bn .prim .add (g vs 4) (I 1)) fun t52 =>
k1 [t37, t51, (g vs 2), (g vs 3), t52] H))) (K (.tuple [(I 0), (I 0)]) H)
def b9 (a0 : AV) (H : Heap) (K : AV → Heap → Prop) : Prop :=
pK (ln .s H a0) fun t13 =>
pK (bn .prim .gtr t13 (I 4194304)) fun t14 =>
condK t14 (K (.tuple [(I 0), (I 3)]) H) (cK sys0 (.fn 17 []) [a0] H fun t16 H =>
pK (ln .sl H t16) fun t17 =>
LoopK (b9_l1 K) [N0, (I 0), t16, t17, (I 0)] H)
theorem w9 (a0 : AV) (H : Heap) (K : AV → Heap → Prop) (h : b9 a0 H K) : ACall sys0 9 [a0] H K :=
  ACall.body3 0 (drawW_ok (ck := ck0) follows0) (.n .o (.n .o (.n .o (.n .o (.n (.n .o (.n (.j [4, 5, 16, 17, 18] .o .o) .o)) .o))))) (g := 9) (fn := Tryd.f9) (c := cOf Tryd.f9) (by kernel_rfl) (by kernel_rfl) (by kernel_rfl) (by kernel_rfl) (by kernel_rfl) (B := b9 a0 H K) (by kernel_rfl) h

/- usher/usherlaw29.awake -/
def b7 (H : Heap) (K : AV → Heap → Prop) : Prop :=
cK sys0 (.fn 9 []) [(T [48, 32, 115, 116, 97, 114, 116, 101, 100, 32, 49, 32, 97, 32, 50, 10, 51, 32, 101, 110, 100, 101, 100, 32, 49, 32, 97])] H fun t6 H =>
pK (ex t6 0) fun t7 =>
pK (ex t6 1) fun t8 =>
cK sys0 (.fn 9 []) [(T [51, 32, 101, 110, 100, 101, 100, 32, 49, 32, 97, 10])] H fun t10 H =>
pK (ex t10 0) fun t11 =>
pK (ex t10 1) fun t12 =>
pK (bn .prim .eql t7 (I 0)) fun t14 =>
grdK t14 true H (fun j => j t8 H) fun t16 H =>
grdK t14 true H (fun j => pK (bn .prim .eql t16 (I 0)) fun x => j x H) fun t17 H =>
pK (pick t14 t17 (B false)) fun t18 =>
grdK t18 true H (fun j => j t11 H) fun t20 H =>
grdK t18 true H (fun j => pK (bn .prim .eql t20 (I 1)) fun x => j x H) fun t21 H =>
pK (pick t18 t21 (B false)) fun t22 =>
grdK t22 true H (fun j => j t12 H) fun t24 H =>
grdK t22 true H (fun j => pK (bn .prim .eql t24 (I 13)) fun x => j x H) fun t25 H =>
pK (pick t22 t25 (B false)) fun t26 =>
K t26 H
theorem w7 (H : Heap) (K : AV → Heap → Prop) (h : b7 H K) : ACall sys0 7 [] H K :=
  ACall.body3 0 (drawW_ok (ck := ck0) follows0) .o (g := 7) (fn := Tryd.f7) (c := cOf Tryd.f7) (by kernel_rfl) (by kernel_rfl) (by kernel_rfl) (by kernel_rfl) (by kernel_rfl) (B := b7 H K) (by kernel_rfl) h

/- usher/trace.Write -/
def b16 (a0 : AV) (H : Heap) (K : AV → Heap → Prop) : Prop :=
hK (aBox H 1 31 a0) fun t1 H =>
pK (ld (some (true, 7)) H t1) fun t7 =>
cK sys0 (.fn 36 []) [t7] H fun t8 H =>
cK sys0 (.fn 18 []) [t8] H fun t11 H =>
pK (ex t11 0) fun t12 =>
pK (ex t11 1) fun t13 =>
hK (al (some z31) H 5 31) fun t5 H =>
sK (st (some (true, 7)) H t5 t12) fun H =>
pK (bn .prim .neq t13 (I 0)) fun t15 =>
grdK t15 false H (fun j => pK (ld (some (true, 7)) H t5) fun x => j x H) fun t17 H =>
grdK t15 false H (fun j => pK (ld (some (true, 7)) H t1) fun x => j x H) fun t18 H =>
grdK t15 false H (fun j => pK (bn (.flat [.i, .i, .i, .s, .i, .i, .i]) .neq t17 t18) fun x => j x H) fun t19 H =>
pK (pick t15 (B true) t19) fun t20 =>
condK t20 (K (.tuple [(T []), (I 2)]) H) (K (.tuple [t8, (I 0)]) H)
theorem w16 (a0 : AV) (H : Heap) (K : AV → Heap → Prop) (h : b16 a0 H K) : ACall sys0 16 [a0] H K :=
  ACall.body3 0 (drawW_ok (ck := ck0) follows0) .o (g := 16) (fn := Tryd.f16) (c := cOf Tryd.f16) (by kernel_rfl) (by kernel_rfl) (by kernel_rfl) (by kernel_rfl) (by kernel_rfl) (B := b16 a0 H K) (by kernel_rfl) h

end Go.Abs
