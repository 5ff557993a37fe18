/- A part of the proofs over this seat: T2b. -/
import Derived.Test.YthlncmkeccgfeaaGreatDoorProg
import Derived.KernelRfl
import Derived.Test.YthlncmkeccgfeaaGreatDoorT2a
set_option linter.unusedVariables false
set_option linter.unusedSimpArgs false
set_option maxRecDepth 100000
namespace Go.Proofs
open Go.Vcg
def H136 : Hints := { r := fun _ => none, s := fun i => match i with | 3 => some [15] | 5 => some [33] | 8 => some [66] | 12 => some [88] | 15 => some [] | _ => none, l := fun _ => none, d := fun i => match i with | 3 => some (.cut 2 (.take 0 (.take 1 (.take 2 (.take 3 (.take 4 (.take 5 (.act 6 (.cut 0 (.act 7 (.cut 1 (.take 8 .done)) .stop)) .stop)))))))) | 5 => some (.cut 1 (.take 0 (.take 1 (.take 2 (.take 3 (.take 4 (.take 5 (.take 6 (.take 7 (.take 8 (.take 9 (.take 10 (.cut 0 (.act 11 (.cut 1 (.take 12 (.take 13 (.take 14 (.take 15 (.take 16 (.take 17 (.take 18 .done)))))))) .stop)))))))))))))) | 8 => some (.cut 2 (.take 0 (.take 1 (.take 2 (.take 3 (.take 4 (.take 5 (.act 6 (.cut 0 (.act 7 (.cut 1 (.take 8 .done)) .stop)) .stop)))))))) | 13 => some (.cut 1 (.take 0 (.take 1 (.take 2 (.take 3 (.take 4 (.take 5 (.take 6 (.take 7 (.take 8 (.take 9 .done))))))))))) | 14 => some (.cut 2 (.take 0 (.take 1 (.take 2 (.take 3 (.take 4 (.take 5 (.take 6 (.act 7 (.cut 0 (.act 8 (.cut 1 (.take 9 .done)) .stop)) .stop))))))))) | 15 => some (.cut 1 (.take 0 (.take 1 (.take 2 (.take 3 (.take 4 (.take 5 (.take 6 (.take 7 (.take 8 (.take 9 (.take 10 (.cut 0 (.act 11 .done .stop)))))))))))))) | 16 => some (.cut 1 (.take 0 (.take 1 (.take 2 (.take 3 (.take 4 (.take 5 (.take 6 (.take 7 (.take 8 (.take 9 (.take 10 (.take 11 (.take 12 (.take 13 (.take 14 (.cut 0 (.act 15 (.cut 1 (.take 16 (.cut 0 (.act 17 .done .stop)))) .stop)))))))))))))))))) | _ => none }
def S136 (P : Program) (E : List PanicEntry → Heap → Prop) (t0 : Value) (h : Heap) (R : Value → Heap → Prop) : Prop :=
  pAlloc P 187 h fun t2 h1 =>
  Reads P (nilS t0) h1 fun t11 =>
  Reads P (Instr.fieldAt 177 t11 1) h1 fun t12 =>
  pLoad P 3 t12 h1 fun t13 =>
  Reads P (Instr.build 187 #[(0, (.bool true)), (3, t13)]) h1 fun t14 =>
  pAlloc P 187 h1 fun t4 h2 =>
  pStore P 187 t4 t14 h2 fun h3 =>
  Join0 (fun J1 =>
    Join1 (fun J2 =>
      CallsH P 135 #[t0, (.int .i64 0), (.int .u8 91)] h3 (fun t17 h4 =>
      boolV t17 fun b3 => bcase b3 (
      CallsH P 135 #[t0, (.int .i64 1), (.int .u8 46)] h4 (fun t20 h5 =>
      boolV t20 fun b4 => bcase b4 (
      J2 (.bool true) h5) (
      CallsH P 135 #[t0, (.int .i64 1), (.int .u8 61)] h5 (fun t23 h6 =>
      J2 t23 h6) E)) E) (
      (undef = undef ∧ ((undef = undef ∧ (J2 (.bool false) h4)))))) E)
    (fun t15 h7 =>
    boolV t15 fun b5 => bcase b5 (
      Stable h7 fun S6 =>
      pLoadS P 187 t4 S6 fun t26 =>
      ReadsS P (nilS t0) S6 fun t29 =>
      ReadsS P (Instr.fieldAt 177 t29 1) S6 fun t30 =>
      pLoadS P 3 t30 S6 fun t31 =>
      (CallsH P 128 #[t0, (.int .i64 8), t31] h7 (fun t32 h8 =>
      S6 h8 ∧ ((pStore P 187 t2 t26 h8 fun h9 =>
      True ∧ (pLoad P 187 t2 h9 fun r7 => R (.tuple #[r7, t32]) h9)) ∧ True)) E) ∧ True) (
      Join1 (fun J8 =>
        CallsH P 135 #[t0, (.int .i64 0), (.int .u8 91)] h7 (fun t35 h10 =>
        boolV t35 fun b9 => bcase b9 (
        CallsH P 135 #[t0, (.int .i64 1), (.int .u8 58)] h10 (fun t38 h11 =>
        J8 t38 h11) E) (
        J8 (.bool false) h10)) E)
      (fun t33 h12 =>
      boolV t33 fun b10 => bcase b10 (
        Reads P (nilS t0) h12 fun t42 =>
        Reads P (Instr.fieldAt 177 t42 0) h12 fun t43 =>
        pLoad P 29 t43 h12 fun t44 =>
        Reads P (nilS t0) h12 fun t46 =>
        Reads P (Instr.fieldAt 177 t46 1) h12 fun t47 =>
        pLoad P 3 t47 h12 fun t48 =>
        Reads P (binS .add 3 true t48 (.int .i64 2)) h12 fun t49 =>
        Reads P (Instr.sliceAt 29 t44 (some t49) none none) h12 fun t50 =>
        Reads P (convert 29 9 t50) h12 fun t51 =>
        (CallsH P 139 #[t51, (str [58, 93])] h12 (fun t52 h13 =>
        True ∧ (Reads P (Instr.extract t52 0) h13 fun t53 =>
        Reads P (Instr.extract t52 1) h13 fun t54 =>
        Reads P (Instr.extract t52 2) h13 fun t55 =>
        CallsH P 140 #[t53] h13 (fun t58 h14 =>
        Reads P (Instr.extract t58 0) h14 fun t59 =>
        Reads P (Instr.extract t58 1) h14 fun t60 =>
        pAlloc P 33 h14 fun t8 h15 =>
        pStore P 33 t8 t59 h15 fun h16 =>
        Join1 (fun J11 =>
          Reads P (Op.unary .not t55) h16 fun t62 =>
          boolV t62 fun b12 => bcase b12 (
          J11 (.bool true) h16) (
          Reads P (Op.unary .not t60) h16 fun t65 =>
          J11 t65 h16))
        (fun t66 h17 =>
        boolV t66 fun b13 => bcase b13 (
          Stable h17 fun S14 =>
          pLoadS P 187 t4 S14 fun t67 =>
          ReadsS P (nilS t0) S14 fun t70 =>
          ReadsS P (Instr.fieldAt 177 t70 1) S14 fun t71 =>
          pLoadS P 3 t71 S14 fun t72 =>
          (CallsH P 128 #[t0, (.int .i64 8), t72] h17 (fun t73 h18 =>
          S14 h18 ∧ ((pStore P 187 t2 t67 h18 fun h19 =>
          True ∧ (pLoad P 187 t2 h19 fun r15 => R (.tuple #[r15, t73]) h19)) ∧ True)) E) ∧ True) (
          Reads P (nilS t0) h17 fun t75 =>
        Reads P (Instr.fieldAt 177 t75 1) h17 fun t76 =>
        pLoad P 3 t76 h17 fun t77 =>
        Reads P (builtinS .len #[9] 3 #[t53]) h17 fun t79 =>
        Reads P (binS .add 3 true t79 (.int .i64 4)) h17 fun t80 =>
        Reads P (binS .add 3 false t77 t80) h17 fun t81 =>
        Reads P (nilS t0) h17 fun t82 =>
        Reads P (Instr.fieldAt 177 t82 1) h17 fun t83 =>
        pStore P 3 t83 t81 h17 fun h20 =>
        pLoad P 33 t8 h20 fun t84 =>
        Reads P (Instr.fieldAt 187 t4 3) h20 fun t85 =>
        pLoad P 3 t85 h20 fun t86 =>
        Reads P (Instr.build 187 #[(2, t84), (3, t86)]) h20 fun t87 =>
        pStore P 187 t2 t87 h20 fun h21 =>
        pLoad P 187 t2 h21 fun r16 => R (.tuple #[r16, .nilIface]) h21))) E)) E) ∧ True) (
        Join1 (fun J17 =>
          CallsH P 135 #[t0, (.int .i64 0), (.int .u8 92)] h12 (fun t90 h22 =>
          boolV t90 fun b18 => bcase b18 (
          Reads P (nilS t0) h22 fun t93 =>
          Reads P (Instr.fieldAt 177 t93 2) h22 fun t94 =>
          pLoad P 3 t94 h22 fun t95 =>
          Reads P (binS .eql 3 true t95 (.int .i64 2)) h22 fun t96 =>
          J17 t96 h22) (
          J17 (.bool false) h22)) E)
        (fun t88 h23 =>
        boolV t88 fun b19 => bcase b19 (
          Reads P (nilS t0) h23 fun t99 =>
          Reads P (Instr.fieldAt 177 t99 1) h23 fun t100 =>
          pLoad P 3 t100 h23 fun t101 =>
          Reads P (binS .add 3 true t101 (.int .i64 1)) h23 fun t102 =>
          Reads P (nilS t0) h23 fun t103 =>
          Reads P (Instr.fieldAt 177 t103 1) h23 fun t104 =>
          pStore P 3 t104 t102 h23 fun h24 =>
          Reads P (nilS t0) h24 fun t106 =>
          Reads P (Instr.fieldAt 177 t106 1) h24 fun t107 =>
          pLoad P 3 t107 h24 fun t108 =>
          Reads P (nilS t0) h24 fun t110 =>
          Reads P (Instr.fieldAt 177 t110 0) h24 fun t111 =>
          pLoad P 29 t111 h24 fun t112 =>
          Reads P (builtinS .len #[29] 3 #[t112]) h24 fun t113 =>
          Reads P (binS .geq 3 false t108 t113) h24 fun t114 =>
          boolV t114 fun b20 => bcase b20 (
            Stable h24 fun S21 =>
            pLoadS P 187 t4 S21 fun t115 =>
            ReadsS P (nilS t0) S21 fun t118 =>
            ReadsS P (Instr.fieldAt 177 t118 0) S21 fun t119 =>
            pLoadS P 29 t119 S21 fun t120 =>
            ReadsS P (builtinS .len #[29] 3 #[t120]) S21 fun t121 =>
            (CallsH P 128 #[t0, (.int .i64 8), t121] h24 (fun t122 h25 =>
            S21 h25 ∧ ((pStore P 187 t2 t115 h25 fun h26 =>
            True ∧ (pLoad P 187 t2 h26 fun r22 => R (.tuple #[r22, t122]) h26)) ∧ True)) E) ∧ True) (
            J1 h24)) (
          J1 h23)))))))
  (fun h27 =>
  Reads P (nilS t0) h27 fun t124 =>
  Reads P (Instr.fieldAt 177 t124 0) h27 fun t125 =>
  pLoad P 29 t125 h27 fun t126 =>
  Reads P (nilS t0) h27 fun t128 =>
  Reads P (Instr.fieldAt 177 t128 1) h27 fun t129 =>
  pLoad P 3 t129 h27 fun t130 =>
  Reads P (Instr.indexAt 29 t126 t130) h27 fun t131 =>
  pLoad P 5 t131 h27 fun t132 =>
  Reads P (Instr.fieldAt 187 t4 1) h27 fun t133 =>
  (pStore P 5 t133 t132 h27 fun h28 =>
  True ∧ (Reads P (nilS t0) h28 fun t135 =>
  Reads P (Instr.fieldAt 177 t135 0) h28 fun t136 =>
  pLoad P 29 t136 h28 fun t137 =>
  Reads P (nilS t0) h28 fun t139 =>
  Reads P (Instr.fieldAt 177 t139 1) h28 fun t140 =>
  pLoad P 3 t140 h28 fun t141 =>
  Reads P (nilS t0) h28 fun t143 =>
  Reads P (Instr.fieldAt 177 t143 1) h28 fun t144 =>
  pLoad P 3 t144 h28 fun t145 =>
  Reads P (binS .add 3 true t145 (.int .i64 1)) h28 fun t146 =>
  Reads P (Instr.sliceAt 29 t137 (some t141) (some t146) none) h28 fun t147 =>
  Reads P (convert 29 9 t147) h28 fun t148 =>
  (CallsH P 120 #[t148] h28 (fun t149 h29 =>
  True ∧ (Reads P (Instr.fieldAt 187 t4 2) h29 fun t150 =>
  (pStore P 33 t150 t149 h29 fun h30 =>
  True ∧ (Reads P (nilS t0) h30 fun t152 =>
  Reads P (Instr.fieldAt 177 t152 1) h30 fun t153 =>
  pLoad P 3 t153 h30 fun t154 =>
  Reads P (binS .add 3 true t154 (.int .i64 1)) h30 fun t155 =>
  Reads P (nilS t0) h30 fun t156 =>
  Reads P (Instr.fieldAt 177 t156 1) h30 fun t157 =>
  pStore P 3 t157 t155 h30 fun h31 =>
  pLoad P 187 t4 h31 fun t158 =>
  pStore P 187 t2 t158 h31 fun h32 =>
  pLoad P 187 t2 h32 fun r23 => R (.tuple #[r23, .nilIface]) h32)) ∧ True)) E) ∧ True)) ∧ True)
theorem C136 {E : List PanicEntry → Heap → Prop} {t0 : Value} {h : Heap} {R : Value → Heap → Prop} (hs : S136 Tryz.prog E t0 h R) : CallsH Tryz.prog 136 #[t0] h R E :=
  calls_of_vc H136 Tryz.mixed Tryz.func136 rfl (by kernel_rfl) (by kernel_rfl) (Eq.mp (show S136 Tryz.prog E t0 h R = vcFun Tryz.prog H136 E Tryz.f136.results.toList _ [t0] h R from by kernel_rfl) hs)

def H137 : Hints := { r := fun _ => none, s := fun i => match i with | 2 => some [32] | _ => none, l := fun _ => none, d := fun i => match i with | 1 => some (.cut 1 (.take 0 (.take 1 (.take 2 (.take 3 (.take 4 (.cut 0 (.act 5 (.cut 1 (.take 6 (.take 7 (.take 8 (.take 9 (.cut 0 (.act 10 (.cut 1 (.take 11 (.take 12 (.take 13 (.take 14 (.take 15 (.take 16 (.take 17 (.take 18 (.take 19 (.take 20 (.take 21 (.take 22 (.take 23 (.take 24 .done))))))))))))))) .stop))))))) .stop)))))))) | 8 => some (.cut 2 (.take 0 (.take 1 (.take 2 (.take 3 (.take 4 (.act 5 (.cut 0 (.act 6 (.cut 1 (.take 7 .done)) .stop)) .stop))))))) | 10 => some (.cut 2 (.take 0 (.take 1 (.take 2 (.take 3 (.take 4 (.act 5 (.cut 0 (.act 6 (.cut 1 (.take 7 .done)) .stop)) .stop))))))) | _ => none }
def S137 (P : Program) (E : List PanicEntry → Heap → Prop) (t0 t1 : Value) (h : Heap) (R : Value → Heap → Prop) : Prop :=
  pNew 187 t1 h fun t3 h1 =>
  pAlloc P 33 h1 fun t4 h2 =>
  Join1 (fun J1 =>
    Reads P (Instr.fieldAt 187 t3 0) h2 fun t8 =>
    pLoad P 4 t8 h2 fun t9 =>
    Reads P (Op.unary .not t9) h2 fun t10 =>
    boolV t10 fun b2 => bcase b2 (
    ((J1 (.bool true) h2) ∧ True) ∧ True) (
    (CallsH P 135 #[t0, (.int .i64 0), (.int .u8 45)] h2 (fun t13 h3 =>
    True ∧ (Reads P (Op.unary .not t13) h3 fun t14 =>
    boolV t14 fun b3 => bcase b3 (
    (J1 (.bool true) h3) ∧ True) (
    (CallsH P 135 #[t0, (.int .i64 1), (.int .u8 93)] h3 (fun t18 h4 =>
    True ∧ (boolV t18 fun b4 => bcase b4 (
    J1 (.bool true) h4) (
    Reads P (nilS t0) h4 fun t22 =>
    Reads P (Instr.fieldAt 177 t22 1) h4 fun t23 =>
    pLoad P 3 t23 h4 fun t24 =>
    Reads P (binS .add 3 true t24 (.int .i64 1)) h4 fun t25 =>
    Reads P (nilS t0) h4 fun t27 =>
    Reads P (Instr.fieldAt 177 t27 0) h4 fun t28 =>
    pLoad P 29 t28 h4 fun t29 =>
    Reads P (builtinS .len #[29] 3 #[t29]) h4 fun t30 =>
    Reads P (binS .geq 3 false t25 t30) h4 fun t31 =>
    J1 t31 h4))) E) ∧ True))) E) ∧ True))
  (fun t32 h5 =>
  boolV t32 fun b5 => bcase b5 (
    Reads P (Instr.fieldAt 187 t3 2) h5 fun t33 =>
    pLoad P 33 t33 h5 fun t34 =>
    pStore P 33 t4 t34 h5 fun h6 =>
    pLoad P 33 t4 h6 fun r6 => R (.tuple #[r6, .nilIface]) h6) (
    Reads P (nilS t0) h5 fun t36 =>
  Reads P (Instr.fieldAt 177 t36 1) h5 fun t37 =>
  pLoad P 3 t37 h5 fun t38 =>
  Reads P (binS .add 3 true t38 (.int .i64 1)) h5 fun t39 =>
  Reads P (nilS t0) h5 fun t40 =>
  Reads P (Instr.fieldAt 177 t40 1) h5 fun t41 =>
  pStore P 3 t41 t39 h5 fun h7 =>
  CallsH P 136 #[t0] h7 (fun t44 h8 =>
  Reads P (Instr.extract t44 0) h8 fun t45 =>
  Reads P (Instr.extract t44 1) h8 fun t46 =>
  pAlloc P 187 h8 fun t6 h9 =>
  pStore P 187 t6 t45 h9 fun h10 =>
  Reads P (binS .neq 26 true t46 .nilIface) h10 fun t49 =>
  boolV t49 fun b7 => bcase b7 (
    Reads P (Instr.fieldAt 187 t3 2) h10 fun t50 =>
    pLoad P 33 t50 h10 fun t51 =>
    pStore P 33 t4 t51 h10 fun h11 =>
    pLoad P 33 t4 h11 fun r8 => R (.tuple #[r8, t46]) h11) (
    Reads P (Instr.fieldAt 187 t6 0) h10 fun t54 =>
    pLoad P 4 t54 h10 fun t55 =>
    Reads P (Op.unary .not t55) h10 fun t56 =>
    boolV t56 fun b9 => bcase b9 (
      Stable h10 fun S10 =>
      ReadsS P (Instr.fieldAt 187 t3 2) S10 fun t57 =>
      pLoadS P 33 t57 S10 fun t58 =>
      ReadsS P (Instr.fieldAt 187 t6 3) S10 fun t60 =>
      pLoadS P 3 t60 S10 fun t61 =>
      (CallsH P 128 #[t0, (.int .i64 8), t61] h10 (fun t62 h12 =>
      S10 h12 ∧ ((pStore P 33 t4 t58 h12 fun h13 =>
      True ∧ (pLoad P 33 t4 h13 fun r11 => R (.tuple #[r11, t62]) h13)) ∧ True)) E) ∧ True) (
      Reads P (Instr.fieldAt 187 t3 1) h10 fun t64 =>
      pLoad P 5 t64 h10 fun t65 =>
      Reads P (Instr.fieldAt 187 t6 1) h10 fun t66 =>
      pLoad P 5 t66 h10 fun t67 =>
      Reads P (binS .gtr 5 false t65 t67) h10 fun t68 =>
      boolV t68 fun b12 => bcase b12 (
        Stable h10 fun S13 =>
        ReadsS P (Instr.fieldAt 187 t3 2) S13 fun t69 =>
        pLoadS P 33 t69 S13 fun t70 =>
        ReadsS P (Instr.fieldAt 187 t3 3) S13 fun t72 =>
        pLoadS P 3 t72 S13 fun t73 =>
        (CallsH P 128 #[t0, (.int .i64 7), t73] h10 (fun t74 h14 =>
        S13 h14 ∧ ((pStore P 33 t4 t70 h14 fun h15 =>
        True ∧ (pLoad P 33 t4 h15 fun r14 => R (.tuple #[r14, t74]) h15)) ∧ True)) E) ∧ True) (
        Reads P (Instr.fieldAt 187 t3 1) h10 fun t75 =>
  pLoad P 5 t75 h10 fun t76 =>
  Reads P (Instr.fieldAt 187 t6 1) h10 fun t77 =>
  pLoad P 5 t77 h10 fun t78 =>
  CallsH P 141 #[t76, t78] h10 (fun t79 h16 =>
  pStore P 33 t4 t79 h16 fun h17 =>
  pLoad P 33 t4 h17 fun r15 => R (.tuple #[r15, .nilIface]) h17) E)))) E))
theorem C137 {E : List PanicEntry → Heap → Prop} {t0 t1 : Value} {h : Heap} {R : Value → Heap → Prop} (hs : S137 Tryz.prog E t0 t1 h R) : CallsH Tryz.prog 137 #[t0, t1] h R E :=
  calls_of_vc H137 Tryz.mixed Tryz.func137 rfl (by kernel_rfl) (by kernel_rfl) (Eq.mp (show S137 Tryz.prog E t0 t1 h R = vcFun Tryz.prog H137 E Tryz.f137.results.toList _ [t0, t1] h R from by kernel_rfl) hs)

def H138 : Hints := { r := fun _ => none, s := fun _ => none, l := fun i => match i with | 3 => some [9] | 6 => some [13] | _ => none, d := fun i => match i with | 8 => some (.cut 1 (.take 0 (.take 1 (.take 2 (.take 3 (.take 4 (.take 5 (.take 6 (.take 7 (.cut 0 (.act 8 .done .stop))))))))))) | _ => none }
def S138 (P : Program) (E : List PanicEntry → Heap → Prop) (t0 : Value) (h : Heap) (R : Value → Heap → Prop) : Prop :=
  pAlloc P 33 h fun t2 h1 =>
  pAlloc P 33 h1 fun t3 h2 =>
  Reads P (builtinS .len #[195] 3 #[t0]) h2 fun t8 =>
  Loop1 (.int .i64 0) h2 (fun C1 t9 h3 =>
    Reads P (binS .lss 3 false t9 t8) h3 fun t10 =>
    boolV t10 fun b2 => bcase b2 (
      Reads P (Instr.indexAt 195 t0 t9) h3 fun t11 =>
    pLoad P 33 t11 h3 fun t12 =>
    pAlloc P 33 h3 fun t5 h4 =>
    pStore P 33 t5 t12 h4 fun h5 =>
    Loop1 (.int .i64 0) h5 (fun C3 t13 h6 =>
      Reads P (binS .lss 3 true t13 (.int .i64 4)) h6 fun t14 =>
      boolV t14 fun b4 => bcase b4 (
        Reads P (Instr.indexAt 33 t3 t13) h6 fun t17 =>
      pLoad P 31 t17 h6 fun t18 =>
      Reads P (Instr.indexAt 33 t5 t13) h6 fun t20 =>
      pLoad P 31 t20 h6 fun t21 =>
      Reads P (binS .or 31 false t18 t21) h6 fun t22 =>
      Reads P (Instr.indexAt 33 t3 t13) h6 fun t23 =>
      (pStore P 31 t23 t22 h6 fun h7 =>
      True ∧ (Reads P (binS .add 3 true t13 (.int .i64 1)) h7 fun t24 =>
      C3 t24 h7)) ∧ True) (
        Reads P (binS .add 3 true t9 (.int .i64 1)) h6 fun t25 =>
    C1 t25 h6))) (
      pLoad P 33 t3 h3 fun t26 =>
  pStore P 33 t2 t26 h3 fun h8 =>
  pLoad P 33 t2 h8 fun r5 => R r5 h8))
theorem C138 {E : List PanicEntry → Heap → Prop} {t0 : Value} {h : Heap} {R : Value → Heap → Prop} (hs : S138 Tryz.prog E t0 h R) : CallsH Tryz.prog 138 #[t0] h R E :=
  calls_of_vc H138 Tryz.mixed Tryz.func138 rfl (by kernel_rfl) (by kernel_rfl) (Eq.mp (show S138 Tryz.prog E t0 h R = vcFun Tryz.prog H138 E Tryz.f138.results.toList _ [t0] h R from by kernel_rfl) hs)

def H140 : Hints := { r := fun _ => none, s := fun i => match i with | 18 => some [] | 23 => some [] | 25 => some [] | _ => none, l := fun _ => none, d := fun i => match i with | 23 => some (.cut 2 (.take 0 (.act 1 (.cut 0 (.act 2 (.cut 0 (.act 3 (.cut 0 (.act 4 .done .stop)) .stop)) .stop)) .stop))) | 26 => some (.cut 2 (.take 0 (.take 2 (.take 3 (.take 4 (.act 1 (.cut 0 (.act 5 (.cut 0 (.act 6 (.cut 0 (.act 7 (.cut 0 (.act 8 .done .stop)) .stop)) .stop)) .stop)) .stop)))))) | 28 => some (.cut 2 (.take 0 (.act 1 (.act 2 (.cut 0 (.act 3 (.cut 0 (.act 4 (.cut 0 (.act 5 .done .stop)) .stop)) .stop)) .stop) .stop))) | _ => none }
def S140 (P : Program) (E : List PanicEntry → Heap → Prop) (t0 : Value) (h : Heap) (R : Value → Heap → Prop) : Prop :=
  pAlloc P 33 h fun t2 h1 =>
  CallsH P 141 #[(.int .u8 33), (.int .u8 126)] h1 (fun t9 h2 =>
  CallsH P 141 #[(.int .u8 48), (.int .u8 57)] h2 (fun t10 h3 =>
  pAlloc P 33 h3 fun t4 h4 =>
  pAlloc P 33 h4 fun t5 h5 =>
  pStore P 33 t4 t9 h5 fun h6 =>
  pStore P 33 t5 t10 h6 fun h7 =>
  CallsH P 141 #[(.int .u8 65), (.int .u8 90)] h7 (fun t11 h8 =>
  CallsH P 141 #[(.int .u8 97), (.int .u8 122)] h8 (fun t12 h9 =>
  pAlloc P 33 h9 fun t6 h10 =>
  pAlloc P 33 h10 fun t7 h11 =>
  pStore P 33 t6 t11 h11 fun h12 =>
  pStore P 33 t7 t12 h12 fun h13 =>
  pAlloc P 33 h13 fun t8 h14 =>
  Join0 (fun J1 =>
    Join0 (fun J2 =>
      Join0 (fun J3 =>
        Reads P (binS .eql 9 true t0 (str [97, 108, 110, 117, 109])) h14 fun t15 =>
        boolV t15 fun b4 => bcase b4 (
          pLoad P 33 t5 h14 fun t38 =>
        pStore P 33 t8 t38 h14 fun h15 =>
        J3 h15) (
          Reads P (binS .eql 9 true t0 (str [97, 108, 112, 104, 97])) h14 fun t17 =>
        boolV t17 fun b5 => bcase b5 (
          J3 h14) (
          Reads P (binS .eql 9 true t0 (str [100, 105, 103, 105, 116])) h14 fun t19 =>
        boolV t19 fun b6 => bcase b6 (
          pLoad P 33 t5 h14 fun t44 =>
      pStore P 33 t8 t44 h14 fun h16 =>
      pLoad P 33 t8 h16 fun t75 =>
  pStore P 33 t2 t75 h16 fun h17 =>
  pLoad P 33 t2 h17 fun r7 => R (.tuple #[r7, (.bool true)]) h17) (
          Reads P (binS .eql 9 true t0 (str [117, 112, 112, 101, 114])) h14 fun t21 =>
        boolV t21 fun b8 => bcase b8 (
          pLoad P 33 t6 h14 fun t45 =>
      pStore P 33 t8 t45 h14 fun h18 =>
      pLoad P 33 t8 h18 fun t75_2 =>
  pStore P 33 t2 t75_2 h18 fun h19 =>
  pLoad P 33 t2 h19 fun r9 => R (.tuple #[r9, (.bool true)]) h19) (
          Reads P (binS .eql 9 true t0 (str [108, 111, 119, 101, 114])) h14 fun t23 =>
        boolV t23 fun b10 => bcase b10 (
          pLoad P 33 t7 h14 fun t46 =>
      pStore P 33 t8 t46 h14 fun h20 =>
      pLoad P 33 t8 h20 fun t75_3 =>
  pStore P 33 t2 t75_3 h20 fun h21 =>
  pLoad P 33 t2 h21 fun r11 => R (.tuple #[r11, (.bool true)]) h21) (
          Reads P (binS .eql 9 true t0 (str [115, 112, 97, 99, 101])) h14 fun t25 =>
        boolV t25 fun b12 => bcase b12 (
          CallsH P 141 #[(.int .u8 9), (.int .u8 13)] h14 (fun t47 h22 =>
      pStore P 33 t8 t47 h22 fun h23 =>
      J2 h23) E) (
          Reads P (binS .eql 9 true t0 (str [98, 108, 97, 110, 107])) h14 fun t27 =>
        boolV t27 fun b13 => bcase b13 (
          J2 h14) (
          Reads P (binS .eql 9 true t0 (str [112, 114, 105, 110, 116])) h14 fun t29 =>
        boolV t29 fun b14 => bcase b14 (
          CallsH P 120 #[(str [32])] h14 (fun t52 h24 =>
    pStore P 33 t8 t52 h24 fun h25 =>
    J1 h25) E) (
          Reads P (binS .eql 9 true t0 (str [103, 114, 97, 112, 104])) h14 fun t31 =>
        boolV t31 fun b15 => bcase b15 (
          J1 h14) (
          Reads P (binS .eql 9 true t0 (str [112, 117, 110, 99, 116])) h14 fun t33 =>
        boolV t33 fun b16 => bcase b16 (
          Stable h14 fun S17 =>
  pLoadS P 33 t4 S17 fun t57 =>
  pLoadS P 33 t5 S17 fun t59 =>
  pLoadS P 33 t6 S17 fun t60 =>
  pLoadS P 33 t7 S17 fun t61 =>
  (CallsH P 96 #[t57] h14 (fun t58 h26 =>
  S17 h26 ∧ ((Runs P (vS (Instr.buildSlice 195 4 #[(0, t58), (1, t59), (2, t60), (3, t61)])) h26 (fun t62 h27 =>
  True ∧ ((CallsH P 138 #[t62] h27 (fun t63 h28 =>
  True ∧ ((CallsH P 96 #[t63] h28 (fun t64 h29 =>
  True ∧ ((pStore P 33 t8 t64 h29 fun h30 =>
  True ∧ (pLoad P 33 t8 h30 fun t75_4 =>
  pStore P 33 t2 t75_4 h30 fun h31 =>
  pLoad P 33 t2 h31 fun r18 => R (.tuple #[r18, (.bool true)]) h31)) ∧ True)) E) ∧ True)) E) ∧ True)) E) ∧ True)) E) ∧ True) (
          Reads P (binS .eql 9 true t0 (str [99, 110, 116, 114, 108])) h14 fun t35 =>
        boolV t35 fun b19 => bcase b19 (
          CallsH P 141 #[(.int .u8 0), (.int .u8 31)] h14 (fun t65 h32 =>
  CallsH P 120 #[(str [127])] h32 (fun t66 h33 =>
  Runs P (vS (Instr.buildSlice 195 2 #[(0, t65), (1, t66)])) h33 (fun t67 h34 =>
  CallsH P 138 #[t67] h34 (fun t68 h35 =>
  pStore P 33 t8 t68 h35 fun h36 =>
  pLoad P 33 t8 h36 fun t75_5 =>
  pStore P 33 t2 t75_5 h36 fun h37 =>
  pLoad P 33 t2 h37 fun r20 => R (.tuple #[r20, (.bool true)]) h37) E) E) E) E) (
          Reads P (binS .eql 9 true t0 (str [120, 100, 105, 103, 105, 116])) h14 fun t37 =>
        boolV t37 fun b21 => bcase b21 (
          Stable h14 fun S22 =>
  pLoadS P 33 t5 S22 fun t69 =>
  (CallsH P 141 #[(.int .u8 97), (.int .u8 102)] h14 (fun t70 h38 =>
  S22 h38 ∧ ((CallsH P 141 #[(.int .u8 65), (.int .u8 70)] h38 (fun t71 h39 =>
  S22 h39 ∧ ((Runs P (vS (Instr.buildSlice 195 3 #[(0, t69), (1, t70), (2, t71)])) h39 (fun t72 h40 =>
  True ∧ ((CallsH P 138 #[t72] h40 (fun t73 h41 =>
  True ∧ ((pStore P 33 t8 t73 h41 fun h42 =>
  True ∧ (pLoad P 33 t8 h42 fun t75_6 =>
  pStore P 33 t2 t75_6 h42 fun h43 =>
  pLoad P 33 t2 h43 fun r23 => R (.tuple #[r23, (.bool true)]) h43)) ∧ True)) E) ∧ True)) E) ∧ True)) E) ∧ True)) E) ∧ True) (
          Reads P (Instr.build 33 #[]) h14 fun t74 =>
  pStore P 33 t2 t74 h14 fun h44 =>
  pLoad P 33 t2 h44 fun r24 => R (.tuple #[r24, (.bool false)]) h44)))))))))))))
      (fun h45 =>
      pLoad P 33 t8 h45 fun t39 =>
      pLoad P 33 t6 h45 fun t40 =>
      pLoad P 33 t7 h45 fun t41 =>
      Runs P (vS (Instr.buildSlice 195 3 #[(0, t39), (1, t40), (2, t41)])) h45 (fun t42 h46 =>
      CallsH P 138 #[t42] h46 (fun t43 h47 =>
      pStore P 33 t8 t43 h47 fun h48 =>
      pLoad P 33 t8 h48 fun t75_7 =>
  pStore P 33 t2 t75_7 h48 fun h49 =>
  pLoad P 33 t2 h49 fun r25 => R (.tuple #[r25, (.bool true)]) h49) E) E))
    (fun h50 =>
    Stable h50 fun S26 =>
    pLoadS P 33 t8 S26 fun t48 =>
    (CallsH P 120 #[(str [9, 32])] h50 (fun t49 h51 =>
    S26 h51 ∧ ((Runs P (vS (Instr.buildSlice 195 2 #[(0, t48), (1, t49)])) h51 (fun t50 h52 =>
    True ∧ ((CallsH P 138 #[t50] h52 (fun t51 h53 =>
    True ∧ ((pStore P 33 t8 t51 h53 fun h54 =>
    True ∧ (pLoad P 33 t8 h54 fun t75_8 =>
  pStore P 33 t2 t75_8 h54 fun h55 =>
  pLoad P 33 t2 h55 fun r27 => R (.tuple #[r27, (.bool true)]) h55)) ∧ True)) E) ∧ True)) E) ∧ True)) E) ∧ True))
  (fun h56 =>
  pLoad P 33 t8 h56 fun t53 =>
  pLoad P 33 t4 h56 fun t54 =>
  Runs P (vS (Instr.buildSlice 195 2 #[(0, t53), (1, t54)])) h56 (fun t55 h57 =>
  CallsH P 138 #[t55] h57 (fun t56 h58 =>
  pStore P 33 t8 t56 h58 fun h59 =>
  pLoad P 33 t8 h59 fun t75_9 =>
  pStore P 33 t2 t75_9 h59 fun h60 =>
  pLoad P 33 t2 h60 fun r28 => R (.tuple #[r28, (.bool true)]) h60) E) E)) E) E) E) E
theorem C140 {E : List PanicEntry → Heap → Prop} {t0 : Value} {h : Heap} {R : Value → Heap → Prop} (hs : S140 Tryz.prog E t0 h R) : CallsH Tryz.prog 140 #[t0] h R E :=
  calls_of_vc H140 Tryz.mixed Tryz.func140 rfl (by kernel_rfl) (by kernel_rfl) (Eq.mp (show S140 Tryz.prog E t0 h R = vcFun Tryz.prog H140 E Tryz.f140.results.toList _ [t0] h R from by kernel_rfl) hs)

def H141 : Hints := { r := fun _ => none, s := fun _ => none, l := fun i => match i with | 3 => some [6] | _ => none, d := fun _ => none }
def S141 (P : Program) (E : List PanicEntry → Heap → Prop) (t0 t1 : Value) (h : Heap) (R : Value → Heap → Prop) : Prop :=
  pAlloc P 33 h fun t4 h1 =>
  pAlloc P 33 h1 fun t5 h2 =>
  Reads P (convert 5 3 t0) h2 fun t8 =>
  Loop1 t8 h2 (fun C1 t6 h3 =>
    Reads P (convert 5 3 t1) h3 fun t11 =>
    Reads P (binS .leq 3 false t6 t11) h3 fun t12 =>
    boolV t12 fun b2 => bcase b2 (
      Reads P (convert 3 5 t6) h3 fun t16 =>
    CallsH P 130 #[t5, t16] h3 (fun t17 h4 =>
    Reads P (binS .add 3 true t6 (.int .i64 1)) h4 fun t14 =>
    C1 t14 h4) E) (
      pLoad P 33 t5 h3 fun t18 =>
  pStore P 33 t4 t18 h3 fun h5 =>
  pLoad P 33 t4 h5 fun r3 => R r3 h5))
theorem C141 {E : List PanicEntry → Heap → Prop} {t0 t1 : Value} {h : Heap} {R : Value → Heap → Prop} (hs : S141 Tryz.prog E t0 t1 h R) : CallsH Tryz.prog 141 #[t0, t1] h R E :=
  calls_of_vc H141 Tryz.mixed Tryz.func141 rfl (by kernel_rfl) (by kernel_rfl) (Eq.mp (show S141 Tryz.prog E t0 t1 h R = vcFun Tryz.prog H141 E Tryz.f141.results.toList _ [t0, t1] h R from by kernel_rfl) hs)

def H168 : Hints := { r := fun _ => none, s := fun _ => none, l := fun _ => none, d := fun _ => none }
def S168 (P : Program) (E : List PanicEntry → Heap → Prop) (t0 : Value) (h : Heap) (R : Value → Heap → Prop) : Prop :=
  Reads P (nilS t0) h fun t4 =>
  Reads P (Instr.fieldAt 80 t4 0) h fun t5 =>
  pLoad P 26 t5 h fun t6 =>
  R t6 h
theorem C168 {E : List PanicEntry → Heap → Prop} {t0 : Value} {h : Heap} {R : Value → Heap → Prop} (hs : S168 Tryz.prog E t0 h R) : CallsH Tryz.prog 168 #[t0] h R E :=
  calls_of_vc H168 Tryz.mixed Tryz.func168 rfl (by kernel_rfl) (by kernel_rfl) (Eq.mp (show S168 Tryz.prog E t0 h R = vcFun Tryz.prog H168 E Tryz.f168.results.toList _ [t0] h R from by kernel_rfl) hs)

def H170 : Hints := { r := fun _ => none, s := fun _ => none, l := fun _ => none, d := fun _ => none }
def S170 (P : Program) (E : List PanicEntry → Heap → Prop) (t0 : Value) (h : Heap) (R : Value → Heap → Prop) : Prop :=
  Reads P (nilS t0) h fun t4 =>
  Reads P (Instr.fieldAt 84 t4 0) h fun t5 =>
  pLoad P 26 t5 h fun t6 =>
  R t6 h
theorem C170 {E : List PanicEntry → Heap → Prop} {t0 : Value} {h : Heap} {R : Value → Heap → Prop} (hs : S170 Tryz.prog E t0 h R) : CallsH Tryz.prog 170 #[t0] h R E :=
  calls_of_vc H170 Tryz.mixed Tryz.func170 rfl (by kernel_rfl) (by kernel_rfl) (Eq.mp (show S170 Tryz.prog E t0 h R = vcFun Tryz.prog H170 E Tryz.f170.results.toList _ [t0] h R from by kernel_rfl) hs)

end Go.Proofs
