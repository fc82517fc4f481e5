import Derived.Test.YtlglooieeadkmaaDoorRT
set_option linter.unusedVariables false
set_option linter.unusedSimpArgs false
set_option maxRecDepth 100000
set_option maxHeartbeats 4000000
namespace Go.Abs
open Go Go.RowKit Go.Proofs
/- usher/usherlaw29.lines -/
def b8_l1 (K : AV → Heap → Prop) (k1 : List AV → Heap → Prop) (vs : List AV) (H : Heap) : Prop :=
pK (ln .sl H (g vs 0)) fun t10 =>
pK (bn .prim .lss (g vs 2) t10) fun t11 =>
condK t11 (pK (ia (.sl 7) H (g vs 0) (g vs 2)) fun t17 =>
pK (ld (some (true, 7)) H t17) fun t18 =>
cK sys0 (.fn 16 []) [t18] H fun t19 H =>
pK (ex t19 0) fun t20 =>
pK (ex t19 1) fun t21 =>
pK (bn .prim .neq t21 (I 0)) fun t23 =>
condK t23 (K (.tuple [(T []), (B false)]) H) (pK (bn .prim .add t20 (T [10])) fun t26 =>
pK (bn .prim .add (g vs 1) t26) fun t27 =>
pK (bn .prim .add (g vs 2) (I 1)) fun t13 =>
k1 [(g vs 0), t27, t13] H)) (K (.tuple [(g vs 1), (B true)]) H)
def b8 (a0 : AV) (H : Heap) (K : AV → Heap → Prop) : Prop :=
LoopK (b8_l1 K) [a0, (T []), (I 0)] H
theorem w8 (a0 : AV) (H : Heap) (K : AV → Heap → Prop) (h : b8 a0 H K) : ACall sys0 8 [a0] H K :=
  ACall.body3 0 (drawW_ok (ck := ck0) follows0) (.n .o (.n .o (.n (.n .o (.n (.j [0, 4, 5] .o .o) .o)) .o))) (g := 8) (fn := Tryd.f8) (c := cOf Tryd.f8) (by kernel_rfl) (by kernel_rfl) (by kernel_rfl) (by kernel_rfl) (by kernel_rfl) (B := b8 a0 H K) (by kernel_rfl) h

/- usher/usherlaw29.JudgeApart -/
def b3_y1 (K : AV → Heap → Prop) (k2 : List AV → Heap → Prop) (vs : List AV) (H : Heap) : Prop :=
pK (bn .prim .add (g vs 3) (I 1)) fun t41 =>
k2 [(g vs 0), (g vs 1), (g vs 2), t41] H
def b3_l2 (K : AV → Heap → Prop) (k2 : List AV → Heap → Prop) (vs : List AV) (H : Heap) : Prop :=
pK (ln .sl H (g vs 0)) fun t38 =>
pK (bn .prim .lss (g vs 3) t38) fun t39 =>
condK t39 (joinK (fun k3 =>
pK (ia (.sl 7) H (g vs 0) (g vs 3)) fun t44 =>
pK (fa (some 1) H t44) fun t45 =>
pK (ld (some (false, 1)) H t45) fun t46 =>
pK (bn .prim .eql t46 (I 6)) fun t47 =>
grdK t47 false H (fun j => j (g vs 0) H) fun t49 H =>
grdK t47 false H (fun j => j (g vs 3) H) fun t50 H =>
grdK t47 false H (fun j => pK (ia (.sl 7) H t49 t50) fun x => j x H) fun t51 H =>
grdK t47 false H (fun j => pK (fa (some 1) H t51) fun x => j x H) fun t52 H =>
grdK t47 false H (fun j => pK (ld (some (false, 1)) H t52) fun x => j x H) fun t53 H =>
grdK t47 false H (fun j => pK (bn .prim .eql t53 (I 7)) fun x => j x H) fun t54 H =>
pK (pick t47 (B true) t54) fun t55 =>
grdK t55 false H (fun j => j (g vs 0) H) fun t57 H =>
grdK t55 false H (fun j => j (g vs 3) H) fun t58 H =>
grdK t55 false H (fun j => pK (ia (.sl 7) H t57 t58) fun x => j x H) fun t59 H =>
grdK t55 false H (fun j => pK (fa (some 2) H t59) fun x => j x H) fun t60 H =>
grdK t55 false H (fun j => pK (ld (some (false, 1)) H t60) fun x => j x H) fun t61 H =>
grdK t55 false H (fun j => j (g vs 1) H) fun t62 H =>
grdK t55 false H (fun j => pK (bn .prim .neq t61 t62) fun x => j x H) fun t63 H =>
pK (pick t55 (B true) t63) fun t64 =>
condK t64 (pK (ia (.sl 7) H (g vs 0) (g vs 3)) fun t68 =>
pK (ld (some (true, 7)) H t68) fun t69 =>
hK (bS (some (31, 7, z31)) H 70 1 [(0, t69)]) fun t70 H =>
hK (ap (some (31, 7)) H 71 (g vs 2) t70) fun t71 H =>
k3 [(g vs 0), (g vs 1), t71, (g vs 3)] H) (k3 [(g vs 0), (g vs 1), (g vs 2), (g vs 3)] H)) (b3_y1 K k2)) (cK sys0 (.fn 8 []) [(g vs 2)] H fun t74 H =>
pK (ex t74 0) fun t75 =>
pK (ex t74 1) fun t76 =>
cK sys0 (.fn 9 []) [t75] H fun t79 H =>
pK (ex t79 0) fun t80 =>
pK (ex t79 1) fun t81 =>
grdK t76 true H (fun j => j t80 H) fun t84 H =>
grdK t76 true H (fun j => pK (bn .prim .eql t84 (I 0)) fun x => j x H) fun t85 H =>
pK (pick t76 t85 (B false)) fun t86 =>
grdK t86 true H (fun j => j t81 H) fun t88 H =>
grdK t86 true H (fun j => pK (bn .prim .eql t88 (I 0)) fun x => j x H) fun t89 H =>
pK (pick t86 t89 (B false)) fun t90 =>
K t90 H)
def b3_y3 (K : AV → Heap → Prop) (vs : List AV) (H : Heap) : Prop :=
pK (un .not (g vs 3)) fun t28 =>
condK t28 (K (B true) H) (cK sys0 (.fn 9 []) [(g vs 2)] H fun t31 H =>
pK (ex t31 0) fun t32 =>
pK (ex t31 1) fun t33 =>
pK (bn .prim .neq t33 (I 0)) fun t35 =>
condK t35 (K (B true) H) (LoopK (b3_l2 K) [(g vs 0), (g vs 1), N0, (I 0)] H))
def b3 (a0 a1 : AV) (H : Heap) (K : AV → Heap → Prop) : Prop :=
cK sys0 (.fn 7 []) [] H fun t15 H =>
pK (un .not t15) fun t16 =>
condK t16 (K (B false) H) (pK (ln .sl H a0) fun t19 =>
pK (mx min t19 (I 100)) fun t20 =>
pK (sl (.sl 7) H a0 none (some t20)) fun t21 =>
joinK (fun k1 =>
cK sys0 (.fn 8 []) [t21] H fun t24 H =>
pK (ex t24 0) fun t25 =>
pK (ex t24 1) fun t26 =>
k1 [t21, a1, t25, t26] H) (b3_y3 K))
theorem w3 (a0 a1 : AV) (H : Heap) (K : AV → Heap → Prop) (h : b3 a0 a1 H K) : ACall sys0 3 [a0, a1] H K :=
  ACall.body3 0 (drawW_ok (ck := ck0) follows0) (.n .o (.n .o (.n .o (.j [0, 1, 5, 6] .o (.n .o (.n .o (.n .o (.n (.n .o (.n (.j [0, 1, 9, 10] (.n .o (.j [0, 1, 9, 10] .o .o)) .o) .o)) .o)))))))) (g := 3) (fn := Tryd.f3) (c := cOf Tryd.f3) (by kernel_rfl) (by kernel_rfl) (by kernel_rfl) (by kernel_rfl) (by kernel_rfl) (B := b3 a0 a1 H K) (by kernel_rfl) h

/- usher/usherlaw29.JudgeMerges -/
def b4_l1 (K : AV → Heap → Prop) (k1 : List AV → Heap → Prop) (k2 : List AV → Heap → Prop) (vs : List AV) (H : Heap) : Prop :=
pK (ln .sl H (g vs 1)) fun t42 =>
pK (bn .prim .lss (g vs 3) t42) fun t43 =>
condK t43 (pK (ia (.sl 7) H (g vs 0) (g vs 2)) fun t48 =>
pK (fa (some 1) H t48) fun t49 =>
pK (ld (some (false, 1)) H t49) fun t50 =>
pK (bn .prim .lss t50 (I 6)) fun t51 =>
grdK t51 true H (fun j => j (g vs 1) H) fun t53 H =>
grdK t51 true H (fun j => j (g vs 3) H) fun t54 H =>
grdK t51 true H (fun j => pK (ia (.sl 7) H t53 t54) fun x => j x H) fun t55 H =>
grdK t51 true H (fun j => pK (fa (some 1) H t55) fun x => j x H) fun t56 H =>
grdK t51 true H (fun j => pK (ld (some (false, 1)) H t56) fun x => j x H) fun t57 H =>
grdK t51 true H (fun j => pK (bn .prim .lss t57 (I 6)) fun x => j x H) fun t58 H =>
pK (pick t51 t58 (B false)) fun t59 =>
grdK t59 true H (fun j => j (g vs 0) H) fun t61 H =>
grdK t59 true H (fun j => j (g vs 2) H) fun t62 H =>
grdK t59 true H (fun j => pK (ia (.sl 7) H t61 t62) fun x => j x H) fun t63 H =>
grdK t59 true H (fun j => pK (fa (some 2) H t63) fun x => j x H) fun t64 H =>
grdK t59 true H (fun j => pK (ld (some (false, 1)) H t64) fun x => j x H) fun t65 H =>
grdK t59 true H (fun j => j (g vs 1) H) fun t66 H =>
grdK t59 true H (fun j => j (g vs 3) H) fun t67 H =>
grdK t59 true H (fun j => pK (ia (.sl 7) H t66 t67) fun x => j x H) fun t68 H =>
grdK t59 true H (fun j => pK (fa (some 2) H t68) fun x => j x H) fun t69 H =>
grdK t59 true H (fun j => pK (ld (some (false, 1)) H t69) fun x => j x H) fun t70 H =>
grdK t59 true H (fun j => pK (bn .prim .eql t65 t70) fun x => j x H) fun t71 H =>
pK (pick t59 t71 (B false)) fun t72 =>
condK t72 (K (B true) H) (pK (bn .prim .add (g vs 3) (I 1)) fun t45 =>
k2 [(g vs 0), (g vs 1), (g vs 2), t45] H)) (pK (bn .prim .add (g vs 2) (I 1)) fun t39 =>
k1 [(g vs 0), (g vs 1), t39] H)
def b4_l2 (K : AV → Heap → Prop) (k5 : List AV → Heap → Prop) (vs : List AV) (H : Heap) : Prop :=
pK (ln .sl H (g vs 0)) fun t107 =>
pK (bn .prim .lss (g vs 3) t107) fun t108 =>
grdK t108 false H (fun j => j (g vs 4) H) fun t110 H =>
grdK t108 false H (fun j => j (g vs 1) H) fun t111 H =>
grdK t108 false H (fun j => pK (ln .sl H t111) fun x => j x H) fun t112 H =>
grdK t108 false H (fun j => pK (bn .prim .lss t110 t112) fun x => j x H) fun t113 H =>
pK (pick t108 (B true) t113) fun t114 =>
condK t114 (pK (ln .sl H (g vs 1)) fun t117 =>
pK (bn .prim .eql (g vs 4) t117) fun t118 =>
grdK t118 false H (fun j => j (g vs 3) H) fun t120 H =>
grdK t118 false H (fun j => j (g vs 0) H) fun t121 H =>
grdK t118 false H (fun j => pK (ln .sl H t121) fun x => j x H) fun t122 H =>
grdK t118 false H (fun j => pK (bn .prim .lss t120 t122) fun x => j x H) fun t123 H =>
grdK t118 false H (fun j => j t123 H) fun t124 H =>
grdK t124 true H (fun j => j (g vs 0) H) fun t125 H =>
grdK t124 true H (fun j => j (g vs 3) H) fun t126 H =>
grdK t124 true H (fun j => pK (ia (.sl 7) H t125 t126) fun x => j x H) fun t127 H =>
grdK t124 true H (fun j => pK (fa (some 0) H t127) fun x => j x H) fun t128 H =>
grdK t124 true H (fun j => pK (ld (some (false, 1)) H t128) fun x => j x H) fun t129 H =>
grdK t124 true H (fun j => j (g vs 1) H) fun t130 H =>
grdK t124 true H (fun j => j (g vs 4) H) fun t131 H =>
grdK t124 true H (fun j => pK (ia (.sl 7) H t130 t131) fun x => j x H) fun t132 H =>
grdK t124 true H (fun j => pK (fa (some 0) H t132) fun x => j x H) fun t133 H =>
grdK t124 true H (fun j => pK (ld (some (false, 1)) H t133) fun x => j x H) fun t134 H =>
grdK t124 true H (fun j => pK (bn .prim .leq t129 t134) fun x => j x H) fun t135 H =>
grdK t118 false H (fun j => pK (pick t124 t135 (B false)) fun x => j x H) fun t136 H =>
pK (pick t118 (B true) t136) fun t137 =>
condK t137 (pK (ia (.sl 7) H (g vs 0) (g vs 3)) fun t141 =>
pK (ld (some (true, 7)) H t141) fun t142 =>
hK (bS (some (31, 7, z31)) H 143 1 [(0, t142)]) fun t143 H =>
hK (ap (some (31, 7)) H 144 (g vs 2) t143) fun t144 H =>
pK (bn .prim .add (g vs 3) (I 1)) fun t146 =>
k5 [(g vs 0), (g vs 1), t144, t146, (g vs 4)] H) (pK (ia (.sl 7) H (g vs 1) (g vs 4)) fun t150 =>
pK (ld (some (true, 7)) H t150) fun t151 =>
hK (bS (some (31, 7, z31)) H 152 1 [(0, t151)]) fun t152 H =>
hK (ap (some (31, 7)) H 153 (g vs 2) t152) fun t153 H =>
pK (bn .prim .add (g vs 4) (I 1)) fun t155 =>
k5 [(g vs 0), (g vs 1), t153, (g vs 3), t155] H)) (cK sys0 (.fn 8 []) [(g vs 2)] H fun t158 H =>
pK (ex t158 0) fun t159 =>
pK (ex t158 1) fun t160 =>
cK sys0 (.fn 9 []) [t159] H fun t163 H =>
pK (ex t163 0) fun t164 =>
pK (ex t163 1) fun t165 =>
pK (bn .prim .eql t164 (I 0)) fun t167 =>
grdK t167 true H (fun j => j t165 H) fun t169 H =>
grdK t167 true H (fun j => pK (bn .prim .eql t169 (I 0)) fun x => j x H) fun t170 H =>
pK (pick t167 t170 (B false)) fun t171 =>
K t171 H)
def b4_y3 (K : AV → Heap → Prop) (vs : List AV) (H : Heap) : Prop :=
pK (un .not (g vs 3)) fun t84 =>
grdK t84 false H (fun j => j (g vs 5) H) fun t86 H =>
grdK t84 false H (fun j => pK (un .not t86) fun x => j x H) fun t87 H =>
pK (pick t84 (B true) t87) fun t88 =>
condK t88 (K (B true) H) (cK sys0 (.fn 9 []) [(g vs 2)] H fun t91 H =>
pK (ex t91 0) fun t92 =>
pK (ex t91 1) fun t93 =>
cK sys0 (.fn 9 []) [(g vs 4)] H fun t96 H =>
pK (ex t96 0) fun t97 =>
pK (ex t96 1) fun t98 =>
pK (bn .prim .neq t93 (I 0)) fun t100 =>
grdK t100 false H (fun j => j t98 H) fun t102 H =>
grdK t100 false H (fun j => pK (bn .prim .neq t102 (I 0)) fun x => j x H) fun t103 H =>
pK (pick t100 (B true) t103) fun t104 =>
condK t104 (K (B true) H) (LoopK (b4_l2 K) [(g vs 0), (g vs 1), N0, (I 0), (I 0)] H))
def b4_y4 (K : AV → Heap → Prop) (vs : List AV) (H : Heap) : Prop :=
joinK (fun k4 =>
cK sys0 (.fn 8 []) [(g vs 1)] H fun t80 H =>
pK (ex t80 0) fun t81 =>
pK (ex t80 1) fun t82 =>
k4 [(g vs 0), (g vs 1), (g vs 2), (g vs 3), t81, t82] H) (b4_y3 K)
def b4_l5 (K : AV → Heap → Prop) (k1 : List AV → Heap → Prop) (vs : List AV) (H : Heap) : Prop :=
pK (ln .sl H (g vs 0)) fun t36 =>
pK (bn .prim .lss (g vs 2) t36) fun t37 =>
condK t37 (LoopK (b4_l1 K k1) [(g vs 0), (g vs 1), (g vs 2), (I 0)] H) (joinK (fun k3 =>
cK sys0 (.fn 8 []) [(g vs 0)] H fun t75 H =>
pK (ex t75 0) fun t76 =>
pK (ex t75 1) fun t77 =>
k3 [(g vs 0), (g vs 1), t76, t77] H) (b4_y4 K))
def b4 (a0 a1 : AV) (H : Heap) (K : AV → Heap → Prop) : Prop :=
cK sys0 (.fn 7 []) [] H fun t22 H =>
pK (un .not t22) fun t23 =>
condK t23 (K (B false) H) (pK (ln .sl H a0) fun t26 =>
pK (mx min t26 (I 60)) fun t27 =>
pK (sl (.sl 7) H a0 none (some t27)) fun t28 =>
pK (ln .sl H a1) fun t31 =>
pK (mx min t31 (I 60)) fun t32 =>
pK (sl (.sl 7) H a1 none (some t32)) fun t33 =>
LoopK (b4_l5 K) [t28, t33, (I 0)] H)
theorem w4 (a0 a1 : AV) (H : Heap) (K : AV → Heap → Prop) (h : b4 a0 a1 H K) : ACall sys0 4 [a0, a1] H K :=
  ACall.body3 0 (drawW_ok (ck := ck0) follows0) (.n .o (.n .o (.n .o (.n (.n .o (.n (.j [0, 1, 5] (.n .o (.n (.n (.n .o (.n (.j [0, 1, 5, 6] .o .o) .o)) .o) .o)) .o) .o)) (.j [0, 1, 7, 8] .o (.j [0, 1, 7, 8, 9, 10] .o (.n .o (.n .o (.n .o (.n .o (.n .o (.n .o (.n (.n (.j [0, 1, 15, 16, 17] .o .o) .o) .o))))))))))))) (g := 4) (fn := Tryd.f4) (c := cOf Tryd.f4) (by kernel_rfl) (by kernel_rfl) (by kernel_rfl) (by kernel_rfl) (by kernel_rfl) (B := b4 a0 a1 H K) (by kernel_rfl) h

end Go.Abs
