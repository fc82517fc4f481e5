import Derived.Test.YtlglooieeadkmaaDoorRT
set_option linter.unusedVariables false
set_option linter.unusedSimpArgs false
set_option maxRecDepth 100000
set_option maxHeartbeats 4000000
namespace Go.Abs
open Go Go.RowKit Go.Proofs
/- usher/words.Hex -/
def b59 (a0 : AV) (H : Heap) (K : AV → Heap → Prop) : Prop :=
cK sys0 (.fn 77 []) [a0, (I 16)] H fun t5 H =>
pK (ln .s H t5) fun t7 =>
pK (bn .prim .sub (I 16) t7) fun t8 =>
cK sys0 (.fn 78 []) [(T [48]), t8] H fun t9 H =>
pK (bn .prim .add t9 t5) fun t11 =>
K t11 H
theorem w59 (a0 : AV) (H : Heap) (K : AV → Heap → Prop) (h : b59 a0 H K) : ACall sys0 59 [a0] H K :=
  ACall.body3 0 (drawW_ok (ck := ck0) follows0) .o (g := 59) (fn := Tryd.f59) (c := cOf Tryd.f59) (by kernel_rfl) (by kernel_rfl) (by kernel_rfl) (by kernel_rfl) (by kernel_rfl) (B := b59 a0 H K) (by kernel_rfl) h

/- usher/trace.line -/
def b36_y1 (K : AV → Heap → Prop) (vs : List AV) (H : Heap) : Prop :=
cK sys0 (.fn 43 []) [(g vs 0), (T [32])] H fun t56 H =>
K t56 H
def b36 (a0 : AV) (H : Heap) (K : AV → Heap → Prop) : Prop :=
hK (aBox H 1 31 a0) fun t1 H =>
pK (fa (some 0) H t1) fun t4 =>
pK (ld (some (false, 1)) H t4) fun t5 =>
cP sys0 (.fn 21 []) [t5] fun t6 =>
pK (fa (some 1) H t1) fun t7 =>
pK (ld (some (false, 1)) H t7) fun t8 =>
cP sys0 (.fn 58 []) [t8] fun t9 =>
hK (bS (some (9, 1, [(T [])])) H 10 2 [(0, t6), (1, t9)]) fun t10 H =>
joinK (fun k1 =>
pK (fa (some 1) H t1) fun t11 =>
pK (ld (some (false, 1)) H t11) fun t12 =>
pK (bn .prim .eql t12 (I 6)) fun t40 =>
condK t40 (pK (fa (some 5) H t1) fun t42 =>
pK (ld (some (false, 1)) H t42) fun t43 =>
cK sys0 (.fn 21 []) [t43] H fun t44 H =>
hK (bS (some (9, 1, [(T [])])) H 45 1 [(0, t44)]) fun t45 H =>
hK (ap (some (9, 1)) H 46 t10 t45) fun t46 H =>
k1 [t46] H) (pK (bn .prim .eql t12 (I 7)) fun t48 =>
condK t48 (pK (fa (some 6) H t1) fun t50 =>
pK (ld (some (false, 1)) H t50) fun t51 =>
cK sys0 (.fn 59 []) [t51] H fun t52 H =>
hK (bS (some (9, 1, [(T [])])) H 53 1 [(0, t52)]) fun t53 H =>
hK (ap (some (9, 1)) H 54 t10 t53) fun t54 H =>
k1 [t54] H) (pK (fa (some 2) H t1) fun t14 =>
pK (ld (some (false, 1)) H t14) fun t15 =>
cP sys0 (.fn 21 []) [t15] fun t16 =>
pK (fa (some 3) H t1) fun t17 =>
pK (ld (some (false, 1)) H t17) fun t18 =>
hK (bS (some (9, 1, [(T [])])) H 19 2 [(0, t16), (1, t18)]) fun t19 H =>
hK (ap (some (9, 1)) H 20 t10 t19) fun t20 H =>
pK (fa (some 1) H t1) fun t21 =>
pK (ld (some (false, 1)) H t21) fun t22 =>
pK (bn .prim .eql t22 (I 1)) fun t24 =>
condK t24 (pK (fa (some 4) H t1) fun t26 =>
pK (ld (some (false, 1)) H t26) fun t27 =>
cK sys0 (.fn 21 []) [t27] H fun t28 H =>
hK (bS (some (9, 1, [(T [])])) H 29 1 [(0, t28)]) fun t29 H =>
hK (ap (some (9, 1)) H 30 t20 t29) fun t30 H =>
k1 [t30] H) (pK (bn .prim .eql t22 (I 2)) fun t32 =>
condK t32 (pK (fa (some 5) H t1) fun t34 =>
pK (ld (some (false, 1)) H t34) fun t35 =>
cK sys0 (.fn 21 []) [t35] H fun t36 H =>
hK (bS (some (9, 1, [(T [])])) H 37 1 [(0, t36)]) fun t37 H =>
hK (ap (some (9, 1)) H 38 t20 t37) fun t38 H =>
k1 [t38] H) (k1 [t20] H))))) (b36_y1 K)
theorem w36 (a0 : AV) (H : Heap) (K : AV → Heap → Prop) (h : b36 a0 H K) : ACall sys0 36 [a0] H K :=
  ACall.body3 0 (drawW_ok (ck := ck0) follows0) (.n .o (.n .o (.j [3] .o .o))) (g := 36) (fn := Tryd.f36) (c := cOf Tryd.f36) (by kernel_rfl) (by kernel_rfl) (by kernel_rfl) (by kernel_rfl) (by kernel_rfl) (B := b36 a0 H K) (by kernel_rfl) h

/- usher/words.plain -/
def b76 (a0 : AV) (H : Heap) (K : AV → Heap → Prop) : Prop :=
pK (bn .prim .geq a0 (.v (.int .u8 97))) fun t4 =>
grdK t4 true H (fun j => j a0 H) fun t6 H =>
grdK t4 true H (fun j => pK (bn .prim .leq t6 (.v (.int .u8 122))) fun x => j x H) fun t7 H =>
pK (pick t4 t7 (B false)) fun t8 =>
grdK t8 false H (fun j => j a0 H) fun t10 H =>
grdK t8 false H (fun j => pK (bn .prim .geq t10 (.v (.int .u8 48))) fun x => j x H) fun t11 H =>
grdK t8 false H (fun j => j t11 H) fun t12 H =>
grdK t12 true H (fun j => j a0 H) fun t13 H =>
grdK t12 true H (fun j => pK (bn .prim .leq t13 (.v (.int .u8 57))) fun x => j x H) fun t14 H =>
grdK t8 false H (fun j => pK (pick t12 t14 (B false)) fun x => j x H) fun t15 H =>
pK (pick t8 (B true) t15) fun t16 =>
K t16 H
theorem w76 (a0 : AV) (H : Heap) (K : AV → Heap → Prop) (h : b76 a0 H K) : ACall sys0 76 [a0] H K :=
  ACall.body3 0 (drawW_ok (ck := ck0) follows0) .o (g := 76) (fn := Tryd.f76) (c := cOf Tryd.f76) (by kernel_rfl) (by kernel_rfl) (by kernel_rfl) (by kernel_rfl) (by kernel_rfl) (B := b76 a0 H K) (by kernel_rfl) h

/- usher/words.Name -/
def b57_l1 (K : AV → Heap → Prop) (k1 : List AV → Heap → Prop) (vs : List AV) (H : Heap) : Prop :=
pK (bn .prim .lss (g vs 2) (g vs 1)) fun t24 =>
condK t24 (pK (ix .s (g vs 0) (g vs 2)) fun t28 =>
cK sys0 (.fn 76 []) [t28] H fun t29 H =>
pK (un .not t29) fun t30 =>
grdK t30 true H (fun j => j (g vs 0) H) fun t32 H =>
grdK t30 true H (fun j => j (g vs 2) H) fun t33 H =>
grdK t30 true H (fun j => pK (ix .s t32 t33) fun x => j x H) fun t34 H =>
grdK t30 true H (fun j => pK (bn .prim .neq t34 (.v (.int .u8 45))) fun x => j x H) fun t35 H =>
pK (pick t30 t35 (B false)) fun t36 =>
condK t36 (K (B false) H) (pK (bn .prim .add (g vs 2) (I 1)) fun t37 =>
k1 [(g vs 0), (g vs 1), t37] H)) (K (B true) H)
def b57 (a0 : AV) (H : Heap) (K : AV → Heap → Prop) : Prop :=
pK (bn .prim .eql a0 (T [])) fun t5 =>
grdK t5 false H (fun j => j a0 H) fun t7 H =>
grdK t5 false H (fun j => pK (ln .s H t7) fun x => j x H) fun t8 H =>
grdK t5 false H (fun j => pK (bn .prim .gtr t8 (I 32)) fun x => j x H) fun t9 H =>
pK (pick t5 (B true) t9) fun t10 =>
grdK t10 false H (fun j => j a0 H) fun t12 H =>
grdK t10 false H (fun j => pK (ix .s t12 (I 0)) fun x => j x H) fun t13 H =>
grdK t10 false H (fun j => pK (bn .prim .lss t13 (.v (.int .u8 97))) fun x => j x H) fun t14 H =>
pK (pick t10 (B true) t14) fun t15 =>
grdK t15 false H (fun j => j a0 H) fun t17 H =>
grdK t15 false H (fun j => pK (ix .s t17 (I 0)) fun x => j x H) fun t18 H =>
grdK t15 false H (fun j => pK (bn .prim .gtr t18 (.v (.int .u8 122))) fun x => j x H) fun t19 H =>
pK (pick t15 (B true) t19) fun t20 =>
condK t20 (K (B false) H) (pK (ln .s H a0) fun t22 =>
LoopK (b57_l1 K) [a0, t22, (I 0)] H)
theorem w57 (a0 : AV) (H : Heap) (K : AV → Heap → Prop) (h : b57 a0 H K) : ACall sys0 57 [a0] H K :=
  ACall.body3 0 (drawW_ok (ck := ck0) follows0) (.n .o (.n .o (.n (.n .o (.n (.j [0, 22, 23] .o .o) .o)) .o))) (g := 57) (fn := Tryd.f57) (c := cOf Tryd.f57) (by kernel_rfl) (by kernel_rfl) (by kernel_rfl) (by kernel_rfl) (by kernel_rfl) (B := b57 a0 H K) (by kernel_rfl) h

/- usher/words.Number -/
def b61_l1 (K : AV → Heap → Prop) (k2 : List AV → Heap → Prop) (vs : List AV) (H : Heap) : Prop :=
pK (bn .prim .lss (g vs 5) (g vs 4)) fun t31 =>
condK t31 (pK (ix .s (g vs 0) (g vs 5)) fun t35 =>
pK (bn .prim .lss t35 (.v (.int .u8 48))) fun t36 =>
grdK t36 false H (fun j => j (g vs 0) H) fun t38 H =>
grdK t36 false H (fun j => j (g vs 5) H) fun t39 H =>
grdK t36 false H (fun j => pK (ix .s t38 t39) fun x => j x H) fun t40 H =>
grdK t36 false H (fun j => pK (bn .prim .gtr t40 (.v (.int .u8 57))) fun x => j x H) fun t41 H =>
pK (pick t36 (B true) t41) fun t42 =>
condK t42 (K (.tuple [(I 0), (B false)]) H) (pK (bn .prim .mul (I 10) (g vs 3)) fun t44 =>
pK (ix .s (g vs 0) (g vs 5)) fun t47 =>
pK (bn .prim .sub t47 (.v (.int .u8 48))) fun t48 =>
pK (cv (some (some .i64)) t48) fun t49 =>
pK (bn .prim .add t44 t49) fun t50 =>
pK (bn .prim .add (g vs 5) (I 1)) fun t51 =>
k2 [(g vs 0), (g vs 1), (g vs 2), t50, (g vs 4), t51] H)) (pK (bn .prim .lss (g vs 3) (g vs 1)) fun t54 =>
grdK t54 false H (fun j => j (g vs 3) H) fun t56 H =>
grdK t54 false H (fun j => j (g vs 2) H) fun t57 H =>
grdK t54 false H (fun j => pK (bn .prim .gtr t56 t57) fun x => j x H) fun t58 H =>
pK (pick t54 (B true) t58) fun t59 =>
condK t59 (K (.tuple [(I 0), (B false)]) H) (K (.tuple [(g vs 3), (B true)]) H))
def b61_y2 (K : AV → Heap → Prop) (vs : List AV) (H : Heap) : Prop :=
pK (ln .s H (g vs 0)) fun t29 =>
LoopK (b61_l1 K) [(g vs 0), (g vs 1), (g vs 2), (I 0), t29, (I 0)] H
def b61 (a0 a1 a2 : AV) (H : Heap) (K : AV → Heap → Prop) : Prop :=
joinK (fun k1 =>
pK (ln .s H a0) fun t11 =>
pK (bn .prim .lss t11 (I 1)) fun t12 =>
grdK t12 false H (fun j => j a0 H) fun t14 H =>
grdK t12 false H (fun j => pK (ln .s H t14) fun x => j x H) fun t15 H =>
grdK t12 false H (fun j => pK (bn .prim .gtr t15 (I 9)) fun x => j x H) fun t16 H =>
pK (pick t12 (B true) t16) fun t17 =>
grdK t17 false H (fun j => j a0 H) fun t19 H =>
grdK t17 false H (fun j => pK (ln .s H t19) fun x => j x H) fun t20 H =>
grdK t17 false H (fun j => pK (bn .prim .gtr t20 (I 1)) fun x => j x H) fun t21 H =>
grdK t17 false H (fun j => j t21 H) fun t22 H =>
grdK t22 true H (fun j => j a0 H) fun t23 H =>
grdK t22 true H (fun j => pK (ix .s t23 (I 0)) fun x => j x H) fun t24 H =>
grdK t22 true H (fun j => pK (bn .prim .eql t24 (.v (.int .u8 48))) fun x => j x H) fun t25 H =>
grdK t17 false H (fun j => pK (pick t22 t25 (B false)) fun x => j x H) fun t26 H =>
pK (pick t17 (B true) t26) fun t27 =>
condK t27 (K (.tuple [(I 0), (B false)]) H) (k1 [a0, a1, a2] H)) (b61_y2 K)
theorem w61 (a0 a1 a2 : AV) (H : Heap) (K : AV → Heap → Prop) (h : b61 a0 a1 a2 H K) : ACall sys0 61 [a0, a1, a2] H K :=
  ACall.body3 0 (drawW_ok (ck := ck0) follows0) (.n .o (.j [0, 1, 2] .o (.n .o (.n (.n .o (.n (.j [0, 1, 2, 8, 29, 30] .o .o) .o)) .o)))) (g := 61) (fn := Tryd.f61) (c := cOf Tryd.f61) (by kernel_rfl) (by kernel_rfl) (by kernel_rfl) (by kernel_rfl) (by kernel_rfl) (B := b61 a0 a1 a2 H K) (by kernel_rfl) h

/- usher/words.Unhex -/
def b62_l1 (K : AV → Heap → Prop) (k1 : List AV → Heap → Prop) (vs : List AV) (H : Heap) : Prop :=
pK (bn .prim .lss (g vs 3) (g vs 2)) fun t13 =>
condK t13 (pK (ix .s (g vs 0) (g vs 3)) fun t17 =>
cK sys0 (.fn 82 []) [(T [48, 49, 50, 51, 52, 53, 54, 55, 56, 57, 97, 98, 99, 100, 101, 102]), t17] H fun t18 H =>
pK (bn .prim .lss t18 (I 0)) fun t20 =>
condK t20 (K (.tuple [(.v (.int .u64 0)), (B false)]) H) (pK (bn .prim .shl (g vs 1) (.v (.int .u64 4))) fun t22 =>
pK (cv (some (some .u64)) t18) fun t24 =>
pK (bn .prim .or t22 t24) fun t25 =>
pK (bn .prim .add (g vs 3) (I 1)) fun t26 =>
k1 [(g vs 0), t25, (g vs 2), t26] H)) (K (.tuple [(g vs 1), (B true)]) H)
def b62 (a0 : AV) (H : Heap) (K : AV → Heap → Prop) : Prop :=
pK (ln .s H a0) fun t8 =>
pK (bn .prim .neq t8 (I 16)) fun t9 =>
condK t9 (K (.tuple [(.v (.int .u64 0)), (B false)]) H) (pK (ln .s H a0) fun t11 =>
LoopK (b62_l1 K) [a0, (.v (.int .u64 0)), t11, (I 0)] H)
theorem w62 (a0 : AV) (H : Heap) (K : AV → Heap → Prop) (h : b62 a0 H K) : ACall sys0 62 [a0] H K :=
  ACall.body3 0 (drawW_ok (ck := ck0) follows0) (.n .o (.n .o (.n .o (.n (.n .o (.n (.j [0, 4, 11, 12] .o .o) .o)) .o)))) (g := 62) (fn := Tryd.f62) (c := cOf Tryd.f62) (by kernel_rfl) (by kernel_rfl) (by kernel_rfl) (by kernel_rfl) (by kernel_rfl) (B := b62 a0 H K) (by kernel_rfl) h

/- usher/trace.parsed -/
def b38_y1 (K : AV → Heap → Prop) (k2 : List AV → Heap → Prop) (vs : List AV) (H : Heap) : Prop :=
pK (bn .prim .add (g vs 5) (I 1)) fun t24 =>
k2 [(g vs 0), (g vs 1), (g vs 2), (g vs 3), (g vs 4), t24] H
def b38_y2 (K : AV → Heap → Prop) (vs : List AV) (H : Heap) : Prop :=
pK (ld (some (true, 7)) H (g vs 1)) fun t152 =>
sK (st (some (true, 7)) H (g vs 0) t152) fun H =>
pK (ld (some (true, 7)) H (g vs 0)) fun r0 =>
K (.tuple [r0, (g vs 2)]) H
def b38_y3 (K : AV → Heap → Prop) (vs : List AV) (H : Heap) : Prop :=
pK (un .not (g vs 3)) fun t87 =>
grdK t87 false H (fun j => j (g vs 0) H) fun t89 H =>
grdK t87 false H (fun j => pK (ln .sl H t89) fun x => j x H) fun t90 H =>
grdK t87 false H (fun j => pK (bn .prim .lss t90 (I 4)) fun x => j x H) fun t91 H =>
pK (pick t87 (B true) t91) fun t92 =>
grdK t92 false H (fun j => j (g vs 0) H) fun t94 H =>
grdK t92 false H (fun j => pK (ia (.sl 1) H t94 (I 3)) fun x => j x H) fun t95 H =>
grdK t92 false H (fun j => pK (ld (some (false, 1)) H t95) fun x => j x H) fun t96 H =>
grdK t92 false H (fun j => cK sys0 (.fn 57 []) [t96] H j) fun t97 H =>
grdK t92 false H (fun j => pK (un .not t97) fun x => j x H) fun t98 H =>
pK (pick t92 (B true) t98) fun t99 =>
condK t99 (pK (ld (some (true, 7)) H (g vs 2)) fun t100 =>
sK (st (some (true, 7)) H (g vs 1) t100) fun H =>
pK (ld (some (true, 7)) H (g vs 1)) fun r0 =>
K (.tuple [r0, (B false)]) H) (pK (ia (.sl 1) H (g vs 0) (I 3)) fun t102 =>
pK (ld (some (false, 1)) H t102) fun t103 =>
pK (fa (some 3) H (g vs 2)) fun t104 =>
sK (st (some (false, 1)) H t104 t103) fun H =>
joinK (fun k5 =>
pK (fa (some 1) H (g vs 2)) fun t106 =>
pK (ld (some (false, 1)) H t106) fun t107 =>
pK (bn .prim .eql t107 (I 1)) fun t108 =>
grdK t108 true H (fun j => j (g vs 0) H) fun t110 H =>
grdK t108 true H (fun j => pK (ln .sl H t110) fun x => j x H) fun t111 H =>
grdK t108 true H (fun j => pK (bn .prim .eql t111 (I 5)) fun x => j x H) fun t112 H =>
pK (pick t108 t112 (B false)) fun t113 =>
condK t113 (pK (ia (.sl 1) H (g vs 0) (I 4)) fun t116 =>
pK (ld (some (false, 1)) H t116) fun t117 =>
cK sys0 (.fn 61 []) [t117, (I 1), (I 16)] H fun t118 H =>
pK (ex t118 0) fun t119 =>
pK (ex t118 1) fun t120 =>
pK (fa (some 4) H (g vs 2)) fun t121 =>
sK (st (some (false, 1)) H t121 t119) fun H =>
k5 [(g vs 1), (g vs 2), t120] H) (pK (fa (some 1) H (g vs 2)) fun t123 =>
pK (ld (some (false, 1)) H t123) fun t124 =>
pK (bn .prim .eql t124 (I 2)) fun t125 =>
grdK t125 true H (fun j => j (g vs 0) H) fun t127 H =>
grdK t125 true H (fun j => pK (ln .sl H t127) fun x => j x H) fun t128 H =>
grdK t125 true H (fun j => pK (bn .prim .eql t128 (I 5)) fun x => j x H) fun t129 H =>
pK (pick t125 t129 (B false)) fun t130 =>
condK t130 (pK (ia (.sl 1) H (g vs 0) (I 4)) fun t133 =>
pK (ld (some (false, 1)) H t133) fun t134 =>
cK sys0 (.fn 61 []) [t134, (I 1), (I 99)] H fun t135 H =>
pK (ex t135 0) fun t136 =>
pK (ex t135 1) fun t137 =>
pK (fa (some 5) H (g vs 2)) fun t139 =>
sK (st (some (false, 1)) H t139 t136) fun H =>
k5 [(g vs 1), (g vs 2), t137] H) (pK (fa (some 1) H (g vs 2)) fun t141 =>
pK (ld (some (false, 1)) H t141) fun t142 =>
pK (bn .prim .neq t142 (I 1)) fun t143 =>
grdK t143 true H (fun j => pK (fa (some 1) H (g vs 2)) fun x => j x H) fun t145 H =>
grdK t143 true H (fun j => pK (ld (some (false, 1)) H t145) fun x => j x H) fun t146 H =>
grdK t143 true H (fun j => pK (bn .prim .neq t146 (I 2)) fun x => j x H) fun t147 H =>
pK (pick t143 t147 (B false)) fun t148 =>
condK t148 (pK (ln .sl H (g vs 0)) fun t150 =>
pK (bn .prim .eql t150 (I 4)) fun t151 =>
k5 [(g vs 1), (g vs 2), t151] H) (k5 [(g vs 1), (g vs 2), (g vs 4)] H)))) (b38_y2 K))
def b38_l4 (K : AV → Heap → Prop) (k2 : List AV → Heap → Prop) (vs : List AV) (H : Heap) : Prop :=
pK (bn .prim .leq (g vs 5) (I 7)) fun t22 =>
condK t22 (joinK (fun k3 =>
pK (ia (.sl 1) H (g vs 0) (I 1)) fun t26 =>
pK (ld (some (false, 1)) H t26) fun t27 =>
cP sys0 (.fn 58 []) [(g vs 5)] fun t29 =>
pK (bn .prim .eql t27 t29) fun t30 =>
condK t30 (pK (fa (some 1) H (g vs 2)) fun t32 =>
sK (st (some (false, 1)) H t32 (g vs 5)) fun H =>
k3 [(g vs 0), (g vs 1), (g vs 2), (g vs 3), (g vs 4), (g vs 5)] H) (k3 [(g vs 0), (g vs 1), (g vs 2), (g vs 3), (g vs 4), (g vs 5)] H)) (b38_y1 K k2)) (pK (un .not (g vs 3)) fun t34 =>
grdK t34 false H (fun j => pK (fa (some 1) H (g vs 2)) fun x => j x H) fun t36 H =>
grdK t34 false H (fun j => pK (ld (some (false, 1)) H t36) fun x => j x H) fun t37 H =>
grdK t34 false H (fun j => pK (bn .prim .eql t37 (I 0)) fun x => j x H) fun t38 H =>
pK (pick t34 (B true) t38) fun t39 =>
condK t39 (pK (ld (some (true, 7)) H (g vs 2)) fun t40 =>
sK (st (some (true, 7)) H (g vs 1) t40) fun H =>
pK (ld (some (true, 7)) H (g vs 1)) fun r0 =>
K (.tuple [r0, (B false)]) H) (pK (fa (some 1) H (g vs 2)) fun t41 =>
pK (ld (some (false, 1)) H t41) fun t42 =>
pK (bn .prim .eql t42 (I 6)) fun t44 =>
condK t44 (pK (ia (.sl 1) H (g vs 0) (I 2)) fun t47 =>
pK (ld (some (false, 1)) H t47) fun t48 =>
cK sys0 (.fn 61 []) [t48, (I 1), (I 99)] H fun t49 H =>
pK (ex t49 0) fun t50 =>
pK (ex t49 1) fun t51 =>
pK (fa (some 5) H (g vs 2)) fun t53 =>
sK (st (some (false, 1)) H t53 t50) fun H =>
pK (ld (some (true, 7)) H (g vs 2)) fun t54 =>
grdK t51 true H (fun j => j (g vs 0) H) fun t57 H =>
grdK t51 true H (fun j => pK (ln .sl H t57) fun x => j x H) fun t58 H =>
grdK t51 true H (fun j => pK (bn .prim .eql t58 (I 3)) fun x => j x H) fun t59 H =>
pK (pick t51 t59 (B false)) fun t60 =>
sK (st (some (true, 7)) H (g vs 1) t54) fun H =>
pK (ld (some (true, 7)) H (g vs 1)) fun r0 =>
K (.tuple [r0, t60]) H) (pK (bn .prim .eql t42 (I 7)) fun t62 =>
condK t62 (pK (ia (.sl 1) H (g vs 0) (I 2)) fun t65 =>
pK (ld (some (false, 1)) H t65) fun t66 =>
cK sys0 (.fn 62 []) [t66] H fun t67 H =>
pK (ex t67 0) fun t68 =>
pK (ex t67 1) fun t69 =>
pK (fa (some 6) H (g vs 2)) fun t70 =>
sK (st (some (false, 1)) H t70 t68) fun H =>
pK (ld (some (true, 7)) H (g vs 2)) fun t71 =>
grdK t69 true H (fun j => j (g vs 0) H) fun t74 H =>
grdK t69 true H (fun j => pK (ln .sl H t74) fun x => j x H) fun t75 H =>
grdK t69 true H (fun j => pK (bn .prim .eql t75 (I 3)) fun x => j x H) fun t76 H =>
pK (pick t69 t76 (B false)) fun t77 =>
sK (st (some (true, 7)) H (g vs 1) t71) fun H =>
pK (ld (some (true, 7)) H (g vs 1)) fun r0 =>
K (.tuple [r0, t77]) H) (joinK (fun k4 =>
pK (ia (.sl 1) H (g vs 0) (I 2)) fun t80 =>
pK (ld (some (false, 1)) H t80) fun t81 =>
cK sys0 (.fn 61 []) [t81, (I 0), (I 999999999)] H fun t82 H =>
pK (ex t82 0) fun t83 =>
pK (ex t82 1) fun t84 =>
pK (fa (some 2) H (g vs 2)) fun t85 =>
sK (st (some (false, 1)) H t85 t83) fun H =>
k4 [(g vs 0), (g vs 1), (g vs 2), t84, (g vs 4)] H) (b38_y3 K)))))
def b38_y5 (K : AV → Heap → Prop) (vs : List AV) (H : Heap) : Prop :=
LoopK (b38_l4 K) [(g vs 0), (g vs 1), (g vs 2), (g vs 3), (g vs 4), (I 1)] H
def b38 (a0 : AV) (H : Heap) (K : AV → Heap → Prop) : Prop :=
hK (al (some z31) H 2 31) fun t2 H =>
pK (ln .sl H a0) fun t10 =>
pK (bn .prim .lss t10 (I 3)) fun t11 =>
condK t11 (pK (bd (some bl31) H []) fun t12 =>
sK (st (some (true, 7)) H t2 t12) fun H =>
pK (ld (some (true, 7)) H t2) fun r0 =>
K (.tuple [r0, (B false)]) H) (hK (al (some z31) H 4 31) fun t4 H =>
joinK (fun k1 =>
pK (ia (.sl 1) H a0 (I 0)) fun t15 =>
pK (ld (some (false, 1)) H t15) fun t16 =>
cK sys0 (.fn 61 []) [t16, (I 0), (I 999999999)] H fun t17 H =>
pK (ex t17 0) fun t18 =>
pK (ex t17 1) fun t19 =>
pK (fa (some 0) H t4) fun t20 =>
sK (st (some (false, 1)) H t20 t18) fun H =>
k1 [a0, t2, t4, t19, (B false)] H) (b38_y5 K))
theorem w38 (a0 : AV) (H : Heap) (K : AV → Heap → Prop) (h : b38 a0 H K) : ACall sys0 38 [a0] H K :=
  ACall.body3 0 (drawW_ok (ck := ck0) follows0) (.n .o (.n .o (.n .o (.n .o (.j [0, 2, 4, 5, 6] .o (.n (.n .o (.n (.j [0, 2, 4, 5, 6, 7] (.n .o (.j [0, 2, 4, 5, 6, 7] .o .o)) .o) .o)) (.n .o (.n .o (.n .o (.j [0, 2, 4, 5, 6] .o (.n .o (.n .o (.j [2, 4, 6] .o .o))))))))))))) (g := 38) (fn := Tryd.f38) (c := cOf Tryd.f38) (by kernel_rfl) (by kernel_rfl) (by kernel_rfl) (by kernel_rfl) (by kernel_rfl) (B := b38 a0 H K) (by kernel_rfl) h

/- usher/trace.Read -/
def b18 (a0 : AV) (H : Heap) (K : AV → Heap → Prop) : Prop :=
hK (al (some z31) H 2 31) fun t2 H =>
cK sys0 (.fn 29 []) [a0] H fun t8 H =>
cK sys0 (.fn 38 []) [t8] H fun t9 H =>
pK (ex t9 0) fun t10 =>
pK (ex t9 1) fun t11 =>
hK (al (some z31) H 4 31) fun t4 H =>
sK (st (some (true, 7)) H t4 t10) fun H =>
pK (un .not t11) fun t13 =>
grdK t13 false H (fun j => pK (ld (some (true, 7)) H t4) fun x => j x H) fun t15 H =>
grdK t13 false H (fun j => cK sys0 (.fn 36 []) [t15] H j) fun t16 H =>
grdK t13 false H (fun j => j a0 H) fun t17 H =>
grdK t13 false H (fun j => pK (bn .prim .neq t16 t17) fun x => j x H) fun t18 H =>
pK (pick t13 (B true) t18) fun t19 =>
condK t19 (pK (bd (some bl31) H []) fun t20 =>
sK (st (some (true, 7)) H t2 t20) fun H =>
pK (ld (some (true, 7)) H t2) fun r0 =>
K (.tuple [r0, (I 2)]) H) (pK (ld (some (true, 7)) H t4) fun t21 =>
sK (st (some (true, 7)) H t2 t21) fun H =>
pK (ld (some (true, 7)) H t2) fun r0 =>
K (.tuple [r0, (I 0)]) H)
theorem w18 (a0 : AV) (H : Heap) (K : AV → Heap → Prop) (h : b18 a0 H K) : ACall sys0 18 [a0] H K :=
  ACall.body3 0 (drawW_ok (ck := ck0) follows0) .o (g := 18) (fn := Tryd.f18) (c := cOf Tryd.f18) (by kernel_rfl) (by kernel_rfl) (by kernel_rfl) (by kernel_rfl) (by kernel_rfl) (B := b18 a0 H K) (by kernel_rfl) h

/- usher/book.phase -/
def b63 (a0 : AV) (H : Heap) (K : AV → Heap → Prop) : Prop :=
pK (bn .prim .geq a0 (I 1)) fun t4 =>
grdK t4 true H (fun j => j a0 H) fun t6 H =>
grdK t4 true H (fun j => pK (bn .prim .leq t6 (I 3)) fun x => j x H) fun t7 H =>
pK (pick t4 t7 (B false)) fun t8 =>
K t8 H
theorem w63 (a0 : AV) (H : Heap) (K : AV → Heap → Prop) (h : b63 a0 H K) : ACall sys0 63 [a0] H K :=
  ACall.body3 0 (drawW_ok (ck := ck0) follows0) .o (g := 63) (fn := Tryd.f63) (c := cOf Tryd.f63) (by kernel_rfl) (by kernel_rfl) (by kernel_rfl) (by kernel_rfl) (by kernel_rfl) (B := b63 a0 H K) (by kernel_rfl) h

/- slices.IndexFunc[[]usher/api.Entry,usher/api.Entry] -/
def b83_l1 (K : AV → Heap → Prop) (k1 : List AV → Heap → Prop) (vs : List AV) (H : Heap) : Prop :=
pK (bn .prim .lss (g vs 3) (g vs 2)) fun t9 =>
condK t9 (pK (ia (.sl 3) H (g vs 0) (g vs 3)) fun t14 =>
pK (ld (some (true, 3)) H t14) fun t15 =>
cK sys0 (g vs 1) [t15] H fun t16 H =>
condK t16 (K (g vs 3) H) (pK (bn .prim .add (g vs 3) (I 1)) fun t18 =>
k1 [(g vs 0), (g vs 1), (g vs 2), t18] H)) (K (I (-1)) H)
def b83 (a0 a1 : AV) (H : Heap) (K : AV → Heap → Prop) : Prop :=
pK (ln .sl H a0) fun t7 =>
LoopK (b83_l1 K) [a0, a1, t7, (I 0)] H
theorem w83 (a0 a1 : AV) (H : Heap) (K : AV → Heap → Prop) (h : b83 a0 a1 H K) : ACall sys0 83 [a0, a1] H K :=
  ACall.body3 0 (drawW_ok (ck := ck0) follows0) (.n .o (.n (.n .o (.n (.j [0, 1, 7, 8] .o .o) .o)) .o)) (g := 83) (fn := Tryd.f83) (c := cOf Tryd.f83) (by kernel_rfl) (by kernel_rfl) (by kernel_rfl) (by kernel_rfl) (by kernel_rfl) (B := b83 a0 a1 H K) (by kernel_rfl) h

end Go.Abs
