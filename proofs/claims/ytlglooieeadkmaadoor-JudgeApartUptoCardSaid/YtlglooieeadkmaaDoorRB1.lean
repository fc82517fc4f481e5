import Derived.Test.YtlglooieeadkmaaDoorRT
set_option linter.unusedVariables false
set_option linter.unusedSimpArgs false
set_option maxRecDepth 100000
set_option maxHeartbeats 4000000
namespace Go.Abs
open Go Go.RowKit Go.Proofs
/- usher/words.Lines -/
def b17_y1 (K : AV → Heap → Prop) (vs : List AV) (H : Heap) : Prop :=
K (g vs 0) H
def b17 (a0 : AV) (H : Heap) (K : AV → Heap → Prop) : Prop :=
cK sys0 (.fn 37 []) [a0, (T [10])] H fun t5 H =>
joinK (fun k1 =>
pK (ln .sl H t5) fun t8 =>
pK (bn .prim .sub t8 (I 1)) fun t9 =>
pK (ia (.sl 1) H t5 t9) fun t10 =>
pK (ld (some (false, 1)) H t10) fun t11 =>
pK (bn .prim .eql t11 (T [])) fun t12 =>
condK t12 (pK (ln .sl H t5) fun t15 =>
pK (bn .prim .sub t15 (I 1)) fun t16 =>
pK (sl (.sl 1) H t5 none (some t16)) fun t17 =>
k1 [t17] H) (k1 [t5] H)) (b17_y1 K)
theorem w17 (a0 : AV) (H : Heap) (K : AV → Heap → Prop) (h : b17 a0 H K) : ACall sys0 17 [a0] H K :=
  ACall.body3 0 (drawW_ok (ck := ck0) follows0) (.n .o (.n .o (.j [3] .o .o))) (g := 17) (fn := Tryd.f17) (c := cOf Tryd.f17) (by kernel_rfl) (by kernel_rfl) (by kernel_rfl) (by kernel_rfl) (by kernel_rfl) (B := b17 a0 H K) (by kernel_rfl) h

/- usher/words.Words$1 -/
def b48 (a0 : AV) (H : Heap) (K : AV → Heap → Prop) : Prop :=
pK (bn .prim .eql a0 (.v (.int .i32 32))) fun t4 =>
K t4 H
theorem w48 (a0 : AV) (H : Heap) (K : AV → Heap → Prop) (h : b48 a0 H K) : ACall sys0 48 [a0] H K :=
  ACall.body3 0 (drawW_ok (ck := ck0) follows0) .o (g := 48) (fn := Tryd.f48) (c := cOf Tryd.f48) (by kernel_rfl) (by kernel_rfl) (by kernel_rfl) (by kernel_rfl) (by kernel_rfl) (B := b48 a0 H K) (by kernel_rfl) h

/- usher/words.Words -/
def b29 (a0 : AV) (H : Heap) (K : AV → Heap → Prop) : Prop :=
cK sys0 (.fn 47 []) [a0, (.fn 48 [])] H fun t4 H =>
K t4 H
theorem w29 (a0 : AV) (H : Heap) (K : AV → Heap → Prop) (h : b29 a0 H K) : ACall sys0 29 [a0] H K :=
  ACall.body3 0 (drawW_ok (ck := ck0) follows0) .o (g := 29) (fn := Tryd.f29) (c := cOf Tryd.f29) (by kernel_rfl) (by kernel_rfl) (by kernel_rfl) (by kernel_rfl) (by kernel_rfl) (B := b29 a0 H K) (by kernel_rfl) h

/- usher/words.Digits -/
def b21 (a0 : AV) (H : Heap) (K : AV → Heap → Prop) : Prop :=
pK (mx max a0 (I 0)) fun t4 =>
cK sys0 (.fn 45 []) [t4] H fun t5 H =>
K t5 H
theorem w21 (a0 : AV) (H : Heap) (K : AV → Heap → Prop) (h : b21 a0 H K) : ACall sys0 21 [a0] H K :=
  ACall.body3 0 (drawW_ok (ck := ck0) follows0) .o (g := 21) (fn := Tryd.f21) (c := cOf Tryd.f21) (by kernel_rfl) (by kernel_rfl) (by kernel_rfl) (by kernel_rfl) (by kernel_rfl) (B := b21 a0 H K) (by kernel_rfl) h

/- usher/trace.verb -/
def b58 (a0 : AV) (H : Heap) (K : AV → Heap → Prop) : Prop :=
pK (bn .prim .eql a0 (I 1)) fun t5 =>
condK t5 (K (T [115, 116, 97, 114, 116, 101, 100]) H) (pK (bn .prim .eql a0 (I 2)) fun t7 =>
condK t7 (K (T [114, 101, 102, 117, 115, 101, 100]) H) (pK (bn .prim .eql a0 (I 3)) fun t9 =>
condK t9 (K (T [108, 97, 116, 101]) H) (pK (bn .prim .eql a0 (I 4)) fun t11 =>
condK t11 (K (T [103, 111, 110, 101]) H) (pK (bn .prim .eql a0 (I 5)) fun t13 =>
condK t13 (K (T [101, 110, 100, 101, 100]) H) (pK (bn .prim .eql a0 (I 6)) fun t15 =>
condK t15 (K (T [119, 114, 111, 110, 103]) H) (pK (bn .prim .eql a0 (I 7)) fun t17 =>
condK t17 (K (T [108, 111, 97, 100, 101, 100]) H) (K (T []) H)))))))
theorem w58 (a0 : AV) (H : Heap) (K : AV → Heap → Prop) (h : b58 a0 H K) : ACall sys0 58 [a0] H K :=
  ACall.body3 0 (drawW_ok (ck := ck0) follows0) .o (g := 58) (fn := Tryd.f58) (c := cOf Tryd.f58) (by kernel_rfl) (by kernel_rfl) (by kernel_rfl) (by kernel_rfl) (by kernel_rfl) (B := b58 a0 H K) (by kernel_rfl) h

/- internal/strconv.isPowerOfTwo -/
def b112 (a0 : AV) (H : Heap) (K : AV → Heap → Prop) : Prop :=
pK (bn .prim .sub a0 (I 1)) fun t5 =>
pK (bn .prim .and a0 t5) fun t6 =>
pK (bn .prim .eql t6 (I 0)) fun t7 =>
K t7 H
theorem w112 (a0 : AV) (H : Heap) (K : AV → Heap → Prop) (h : b112 a0 H K) : ACall sys0 112 [a0] H K :=
  ACall.body3 0 (drawW_ok (ck := ck0) follows0) .o (g := 112) (fn := Tryd.f112) (c := cOf Tryd.f112) (by kernel_rfl) (by kernel_rfl) (by kernel_rfl) (by kernel_rfl) (by kernel_rfl) (B := b112 a0 H K) (by kernel_rfl) h

/- math/bits.TrailingZeros -/
def b113 (a0 : AV) (H : Heap) (K : AV → Heap → Prop) : Prop :=
condK (B false) (pK (cv (some (some .u32)) a0) fun t4 =>
cK sys0 (.fn 115 []) [t4] H fun t5 H =>
K t5 H) (cK sys0 (.fn 116 []) [a0] H fun t7 H =>
K t7 H)
theorem w113 (a0 : AV) (H : Heap) (K : AV → Heap → Prop) (h : b113 a0 H K) : ACall sys0 113 [a0] H K :=
  ACall.body3 0 (drawW_ok (ck := ck0) follows0) .o (g := 113) (fn := Tryd.f113) (c := cOf Tryd.f113) (by kernel_rfl) (by kernel_rfl) (by kernel_rfl) (by kernel_rfl) (by kernel_rfl) (B := b113 a0 H K) (by kernel_rfl) h

/- internal/strconv.formatBits -/
def b101_l1 (K : AV → Heap → Prop) (k3 : List AV → Heap → Prop) (k4 : List AV → Heap → Prop) (vs : List AV) (H : Heap) : Prop :=
pK (bn .prim .geq (g vs 1) (g vs 9)) fun t46 =>
condK t46 (pK (bn .prim .sub (g vs 7) (I 1)) fun t48 =>
pK (bn .prim .and (g vs 1) (g vs 10)) fun t52 =>
pK (ix .s (T [48, 49, 50, 51, 52, 53, 54, 55, 56, 57, 97, 98, 99, 100, 101, 102, 103, 104, 105, 106, 107, 108, 109, 110, 111, 112, 113, 114, 115, 116, 117, 118, 119, 120, 121, 122]) t52) fun t53 =>
pK (ia (.ar 65 1) H (g vs 6) t48) fun t54 =>
sK (st (some (false, 1)) H t54 t53) fun H =>
pK (bn .prim .shr (g vs 1) (g vs 8)) fun t57 =>
k4 [(g vs 0), t57, (g vs 2), (g vs 3), (g vs 4), (g vs 5), (g vs 6), t48, (g vs 8), (g vs 9), (g vs 10)] H) (pK (bn .prim .sub (g vs 7) (I 1)) fun t59 =>
pK (ix .s (T [48, 49, 50, 51, 52, 53, 54, 55, 56, 57, 97, 98, 99, 100, 101, 102, 103, 104, 105, 106, 107, 108, 109, 110, 111, 112, 113, 114, 115, 116, 117, 118, 119, 120, 121, 122]) (g vs 1)) fun t62 =>
pK (ia (.ar 65 1) H (g vs 6) t59) fun t63 =>
sK (st (some (false, 1)) H t63 t62) fun H =>
k3 [(g vs 0), (g vs 2), (g vs 3), (g vs 4), (g vs 5), (g vs 6), t59] H)
def b101_l2 (K : AV → Heap → Prop) (k3 : List AV → Heap → Prop) (k5 : List AV → Heap → Prop) (vs : List AV) (H : Heap) : Prop :=
pK (bn .prim .geq (g vs 1) (g vs 8)) fun t68 =>
condK t68 (pK (bn .prim .sub (g vs 7) (I 1)) fun t70 =>
pK (bn .prim .quo (g vs 1) (g vs 8)) fun t73 =>
pK (bn .prim .mul t73 (g vs 8)) fun t78 =>
pK (bn .prim .sub (g vs 1) t78) fun t79 =>
pK (ix .s (T [48, 49, 50, 51, 52, 53, 54, 55, 56, 57, 97, 98, 99, 100, 101, 102, 103, 104, 105, 106, 107, 108, 109, 110, 111, 112, 113, 114, 115, 116, 117, 118, 119, 120, 121, 122]) t79) fun t80 =>
pK (ia (.ar 65 1) H (g vs 6) t70) fun t81 =>
sK (st (some (false, 1)) H t81 t80) fun H =>
k5 [(g vs 0), t73, (g vs 2), (g vs 3), (g vs 4), (g vs 5), (g vs 6), t70, (g vs 8)] H) (pK (bn .prim .sub (g vs 7) (I 1)) fun t84 =>
pK (ix .s (T [48, 49, 50, 51, 52, 53, 54, 55, 56, 57, 97, 98, 99, 100, 101, 102, 103, 104, 105, 106, 107, 108, 109, 110, 111, 112, 113, 114, 115, 116, 117, 118, 119, 120, 121, 122]) (g vs 1)) fun t87 =>
pK (ia (.ar 65 1) H (g vs 6) t84) fun t88 =>
sK (st (some (false, 1)) H t88 t87) fun H =>
k3 [(g vs 0), (g vs 2), (g vs 3), (g vs 4), (g vs 5), (g vs 6), t84] H)
def b101_y3 (K : AV → Heap → Prop) (vs : List AV) (H : Heap) : Prop :=
condK (g vs 1) (pK (sl (.ar 65 1) H (g vs 4) (some (g vs 5)) none) fun t97 =>
hK (ap (some (5, 1)) H 98 (g vs 0) t97) fun t98 H =>
K (.tuple [t98, (g vs 3)]) H) (pK (sl (.ar 65 1) H (g vs 4) (some (g vs 5)) none) fun t100 =>
pK (aByt H t100) fun t101 =>
K (.tuple [(g vs 2), t101]) H)
def b101_y4 (K : AV → Heap → Prop) (vs : List AV) (H : Heap) : Prop :=
joinK (fun k6 =>
condK (g vs 1) (pK (bn .prim .sub (g vs 6) (I 1)) fun t91 =>
pK (ia (.ar 65 1) H (g vs 5) t91) fun t93 =>
sK (st (some (false, 1)) H t93 (.v (.int .u8 45))) fun H =>
k6 [(g vs 0), (g vs 2), (g vs 3), (g vs 4), (g vs 5), t91] H) (k6 [(g vs 0), (g vs 2), (g vs 3), (g vs 4), (g vs 5), (g vs 6)] H)) (b101_y3 K)
def b101_y5 (K : AV → Heap → Prop) (vs : List AV) (H : Heap) : Prop :=
joinK (fun k3 =>
cK sys0 (.fn 112 []) [(g vs 2)] H fun t34 H =>
condK t34 (pK (cv (some (some .u64)) (g vs 2)) fun t36 =>
cK sys0 (.fn 113 []) [t36] H fun t37 H =>
pK (cv (some (some .u64)) t37) fun t38 =>
pK (cv (some (some .u64)) (g vs 2)) fun t40 =>
pK (cv (some (some .u64)) (g vs 2)) fun t42 =>
pK (bn .prim .sub t42 (.v (.int .u64 1))) fun t43 =>
LoopK (b101_l1 K k3) [(g vs 0), (g vs 1), (g vs 3), (g vs 4), (g vs 5), (g vs 6), (g vs 7), (g vs 8), t38, t40, t43] H) (pK (cv (some (some .u64)) (g vs 2)) fun t65 =>
LoopK (b101_l2 K k3) [(g vs 0), (g vs 1), (g vs 3), (g vs 4), (g vs 5), (g vs 6), (g vs 7), (g vs 8), t65] H)) (b101_y4 K)
def b101_y6 (K : AV → Heap → Prop) (vs : List AV) (H : Heap) : Prop :=
hK (al (some z162) H 12 162) fun t12 H =>
joinK (fun k2 =>
condK (g vs 3) (pK (un .neg (g vs 1)) fun t32 =>
k2 [(g vs 0), t32, (g vs 2), (g vs 3), (g vs 4), (g vs 5), (g vs 6), t12, (I 65)] H) (k2 [(g vs 0), (g vs 1), (g vs 2), (g vs 3), (g vs 4), (g vs 5), (g vs 6), t12, (I 65)] H)) (b101_y5 K)
def b101 (a0 a1 a2 a3 a4 : AV) (H : Heap) (K : AV → Heap → Prop) : Prop :=
joinK (fun k1 =>
pK (bn .prim .lss a2 (I 2)) fun t20 =>
grdK t20 false H (fun j => j a2 H) fun t22 H =>
grdK t20 false H (fun j => pK (bn .prim .eql t22 (I 10)) fun x => j x H) fun t23 H =>
pK (pick t20 (B true) t23) fun t24 =>
grdK t24 false H (fun j => j a2 H) fun t26 H =>
grdK t24 false H (fun j => pK (bn .prim .gtr t26 (I 36)) fun x => j x H) fun t27 H =>
pK (pick t24 (B true) t27) fun t28 =>
condK t28 (pK (mi true 9 (T [115, 116, 114, 99, 111, 110, 118, 58, 32, 105, 108, 108, 101, 103, 97, 108, 32, 65, 112, 112, 101, 110, 100, 73, 110, 116, 47, 70, 111, 114, 109, 97, 116, 73, 110, 116, 32, 98, 97, 115, 101])) fun t29 =>
False) (k1 [a0, a1, a2, a3, a4, N0, (T [])] H)) (b101_y6 K)
theorem w101 (a0 a1 a2 a3 a4 : AV) (H : Heap) (K : AV → Heap → Prop) (h : b101 a0 a1 a2 a3 a4 H K) : ACall sys0 101 [a0, a1, a2, a3, a4] H K :=
  ACall.body3 0 (drawW_ok (ck := ck0) follows0) (.n .o (.j [0, 1, 2, 3, 4, 10, 11] .o (.n .o (.n .o (.j [0, 1, 2, 3, 4, 10, 11, 12, 13] .o (.j [0, 3, 4, 10, 11, 12, 13] (.n .o (.n (.n .o (.n .o (.n .o (.n (.n (.j [0, 1, 3, 4, 10, 11, 12, 13, 14, 15, 16] .o .o) .o) .o)))) (.n .o (.n (.n (.j [0, 1, 3, 4, 10, 11, 12, 13, 17] .o .o) .o) .o)))) (.j [0, 4, 10, 11, 12, 13] .o .o))))))) (g := 101) (fn := Tryd.f101) (c := cOf Tryd.f101) (by kernel_rfl) (by kernel_rfl) (by kernel_rfl) (by kernel_rfl) (by kernel_rfl) (B := b101 a0 a1 a2 a3 a4 H K) (by kernel_rfl) h

/- internal/strconv.FormatUint -/
def b90 (a0 a1 : AV) (H : Heap) (K : AV → Heap → Prop) : Prop :=
pK (bn .prim .eql a1 (I 10)) fun t10 =>
condK t10 (pK (bn .prim .lss a0 (.v (.int .u64 100))) fun t12 =>
condK t12 (pK (cv (some (some .i64)) a0) fun t14 =>
cK sys0 (.fn 98 []) [t14] H fun t15 H =>
K t15 H) (hK (al (some z149) H 5 149) fun t5 H =>
cK sys0 (.fn 99 []) [a0] H fun t17 H =>
pK (sl (.ar 24 1) H t5 none (some t17)) fun t19 =>
cK sys0 (.fn 100 []) [t19, a0] H fun t21 H =>
pK (sl (.ar 24 1) H t5 none (some t17)) fun t23 =>
pK (aByt H t23) fun t24 =>
K t24 H)) (cK sys0 (.fn 101 []) [N0, a0, a1, (B false), (B false)] H fun t28 H =>
pK (ex t28 0) fun t29 =>
pK (ex t28 1) fun t30 =>
K t30 H)
theorem w90 (a0 a1 : AV) (H : Heap) (K : AV → Heap → Prop) (h : b90 a0 a1 H K) : ACall sys0 90 [a0, a1] H K :=
  ACall.body3 0 (drawW_ok (ck := ck0) follows0) .o (g := 90) (fn := Tryd.f90) (c := cOf Tryd.f90) (by kernel_rfl) (by kernel_rfl) (by kernel_rfl) (by kernel_rfl) (by kernel_rfl) (B := b90 a0 a1 H K) (by kernel_rfl) h

/- strconv.FormatUint -/
def b77 (a0 a1 : AV) (H : Heap) (K : AV → Heap → Prop) : Prop :=
cK sys0 (.fn 90 []) [a0, a1] H fun t7 H =>
K t7 H
theorem w77 (a0 a1 : AV) (H : Heap) (K : AV → Heap → Prop) (h : b77 a0 a1 H K) : ACall sys0 77 [a0, a1] H K :=
  ACall.body3 0 (drawW_ok (ck := ck0) follows0) .o (g := 77) (fn := Tryd.f77) (c := cOf Tryd.f77) (by kernel_rfl) (by kernel_rfl) (by kernel_rfl) (by kernel_rfl) (by kernel_rfl) (B := b77 a0 a1 H K) (by kernel_rfl) h

end Go.Abs
