/- A part of the proofs over this seat: T2a. -/
import Derived.Test.YthlncmkeccgfeaaGreatDoorProg
import Derived.KernelRfl
import Derived.Test.YthlncmkeccgfeaaGreatDoorVcg
set_option linter.unusedVariables false
set_option linter.unusedSimpArgs false
set_option maxRecDepth 100000
namespace Go.Proofs
open Go.Vcg
theorem Tryz.mixed : Tryz.prog.follows .mixedOrders = true := by kernel_rfl
def H3 : Hints := { r := fun _ => none, s := fun i => match i with | 4 => some [] | 7 => some [] | 12 => some [] | _ => none, l := fun i => match i with | 13 => some [66] | _ => none, d := fun i => match i with | 9 => some (.cut 2 (.take 0 (.take 1 (.take 2 (.act 3 (.cut 0 (.act 4 (.cut 1 (.take 5 (.cut 0 (.act 6 (.cut 1 (.take 7 (.take 8 .done))) .stop)))) .stop)) .stop))))) | 15 => some (.cut 2 (.take 0 (.take 1 (.take 2 (.take 3 (.take 4 (.take 5 (.take 6 (.take 7 (.act 8 (.cut 0 (.act 9 (.cut 1 (.take 10 .done)) .stop)) .stop)))))))))) | _ => none }
def S3 (P : Program) (E : List PanicEntry → Heap → Prop) (t0 t1 : Value) (h : Heap) (R : Value → Heap → Prop) : Prop :=
  CallsH P 9 #[t0, t1] h (fun t12 h1 =>
  Join0 (fun J1 =>
    Reads P (binS .eql 9 true t0 (str [])) h1 fun t14 =>
    boolV t14 fun b2 => bcase b2 (
    CallsH P 10 #[] h1 (fun t20 h2 =>
    R t20 h2) E) (
    Reads P (builtinS .len #[9] 3 #[t12]) h1 fun t17 =>
    Reads P (binS .gtr 3 true t17 (.int .i64 256)) h1 fun t18 =>
    boolV t18 fun b3 => bcase b3 (
      CallsH P 10 #[] h1 (fun t20_2 h3 =>
      R t20_2 h3) E) (
      J1 h1)))
  (fun h4 =>
  Runs P (vS (convert 9 29 t12)) h4 (fun t23 h5 =>
  CallsH P 11 #[t23, t1] h5 (fun t25 h6 =>
  Reads P (Instr.extract t25 0) h6 fun t26 =>
  Reads P (Instr.extract t25 1) h6 fun t27 =>
  Join0 (fun J4 =>
    Reads P (binS .neq 26 true t27 .nilIface) h6 fun t29 =>
    boolV t29 fun b5 => bcase b5 (
    R (.bool false) h6) (
    Reads P (binS .eql 24 true t26 (.pointer none)) h6 fun t32 =>
    boolV t32 fun b6 => bcase b6 (
    R (.bool false) h6) (
    CallsH P 12 #[t26] h6 (fun t36 h7 =>
    Reads P (binS .neq 3 true t36 (.int .i64 0)) h7 fun t37 =>
    boolV t37 fun b7 => bcase b7 (
      R (.bool false) h7) (
      J4 h7)) E)))
  (fun h8 =>
  CallsH P 13 #[t26] h8 (fun t40 h9 =>
  pAlloc P 36 h9 fun t8 h10 =>
  pStore P 36 t8 t40 h10 fun h11 =>
  Reads P (builtinS .len #[9] 3 #[t0]) h11 fun t42 =>
  Reads P (binS .eql 3 true t42 (.int .i64 1)) h11 fun t43 =>
  boolV t43 fun b8 => bcase b8 (
    Stable h11 fun S9 =>
    pLoadS P 36 t8 S9 fun t44 =>
    ReadsS P (Instr.index 9 t0 (.int .i64 0)) S9 fun t46 =>
    (CallsH P 15 #[t46] h11 (fun t47 h12 =>
    S9 h12 ∧ ((CallsH P 14 #[t44, t47] h12 (fun t48 h13 =>
    True ∧ ((boolV t48 fun b10 => bcase b10 (
    CallsH P 10 #[] h13 (fun t50 h14 =>
    True ∧ (R t50 h14)) E) (
    R (.bool false) h13)) ∧ True)) E) ∧ True)) E) ∧ True) (
    Join0 (fun J11 =>
    Reads P (Instr.fieldAt 36 t8 0) h11 fun t52 =>
    pLoad P 3 t52 h11 fun t53 =>
    Reads P (binS .neq 3 true t53 (.int .i64 4)) h11 fun t54 =>
    boolV t54 fun b12 => bcase b12 (
    R (.bool false) h11) (
    Reads P (Instr.fieldAt 36 t8 5) h11 fun t56 =>
    pLoad P 34 t56 h11 fun t57 =>
    Reads P (builtinS .len #[34] 3 #[t57]) h11 fun t58 =>
    Reads P (builtinS .len #[9] 3 #[t0]) h11 fun t60 =>
    Reads P (binS .neq 3 false t58 t60) h11 fun t61 =>
    boolV t61 fun b13 => bcase b13 (
      R (.bool false) h11) (
      J11 h11)))
  (fun h15 =>
  Reads P (Instr.fieldAt 36 t8 5) h15 fun t63 =>
  pLoad P 34 t63 h15 fun t64 =>
  Reads P (builtinS .len #[34] 3 #[t64]) h15 fun t65 =>
  Loop1 (.int .i64 0) h15 (fun C14 t66 h16 =>
    Reads P (binS .lss 3 false t66 t65) h16 fun t67 =>
    boolV t67 fun b15 => bcase b15 (
      Stable h16 fun S16 =>
    ReadsS P (Instr.fieldAt 36 t8 5) S16 fun t69 =>
    pLoadS P 34 t69 S16 fun t70 =>
    ReadsS P (Instr.indexAt 34 t70 t66) S16 fun t72 =>
    pLoadS P 36 t72 S16 fun t73 =>
    ReadsS P (Instr.index 9 t0 t66) S16 fun t76 =>
    (CallsH P 15 #[t76] h16 (fun t77 h17 =>
    S16 h17 ∧ ((CallsH P 14 #[t73, t77] h17 (fun t78 h18 =>
    True ∧ (Reads P (Op.unary .not t78) h18 fun t79 =>
    boolV t79 fun b17 => bcase b17 (
      R (.bool false) h18) (
      Reads P (binS .add 3 true t66 (.int .i64 1)) h18 fun t80 =>
    C14 t80 h18))) E) ∧ True)) E) ∧ True) (
      CallsH P 10 #[] h16 (fun t81 h19 =>
  R t81 h19) E))))) E)) E) E)) E
theorem C3 {E : List PanicEntry → Heap → Prop} {t0 t1 : Value} {h : Heap} {R : Value → Heap → Prop} (hs : S3 Tryz.prog E t0 t1 h R) : CallsH Tryz.prog 3 #[t0, t1] h R E :=
  calls_of_vc H3 Tryz.mixed Tryz.func3 rfl (by kernel_rfl) (by kernel_rfl) (Eq.mp (show S3 Tryz.prog E t0 t1 h R = vcFun Tryz.prog H3 E Tryz.f3.results.toList _ [t0, t1] h R from by kernel_rfl) hs)

def H5 : Hints := { r := fun _ => none, s := fun i => match i with | 3 => some [] | 15 => some [] | _ => none, l := fun _ => none, d := fun i => match i with | 16 => some (.cut 1 (.take 0 (.take 1 (.take 2 (.take 3 (.cut 2 (.take 4 (.take 5 (.take 6 (.take 7 (.take 10 (.act 8 (.act 9 (.act 11 (.act 12 (.take 13 (.cut 1 (.take 14 (.take 15 (.take 16 (.cut 0 (.act 17 (.cut 1 (.take 18 (.take 19 .done))) .stop))))))) .stop) .stop) .stop) .stop)))))))))))) | _ => none }
def S5 (P : Program) (E : List PanicEntry → Heap → Prop) (t0 t1 : Value) (h : Heap) (R : Value → Heap → Prop) : Prop :=
  Join0 (fun J1 =>
    Reads P (builtinS .len #[29] 3 #[t0]) h fun t15 =>
    Reads P (binS .gtr 3 true t15 (.int .i64 120)) h fun t16 =>
    boolV t16 fun b2 => bcase b2 (
    (undef = undef ∧ ((undef = undef ∧ ((undef = undef ∧ ((undef = undef ∧ ((undef = undef ∧ ((undef = undef ∧ ((undef = undef ∧ (CallsH P 10 #[] h (fun t36 h1 =>
    R t36 h1) E))))))))))))))) (
    Reads P (builtinS .len #[29] 3 #[t1]) h fun t19 =>
    Reads P (binS .gtr 3 true t19 (.int .i64 120)) h fun t20 =>
    boolV t20 fun b3 => bcase b3 (
    (undef = undef ∧ ((undef = undef ∧ ((undef = undef ∧ ((undef = undef ∧ ((undef = undef ∧ ((undef = undef ∧ ((undef = undef ∧ (CallsH P 10 #[] h (fun t36_2 h2 =>
    R t36_2 h2) E))))))))))))))) (
    Reads P (builtinS .len #[29] 3 #[t0]) h fun t24 =>
    Reads P (binS .gtr 3 true t24 (.int .i64 0)) h fun t25 =>
    boolV t25 fun b4 => bcase b4 (
    Reads P (builtinS .len #[29] 3 #[t0]) h fun t29 =>
    Reads P (binS .sub 3 true t29 (.int .i64 1)) h fun t30 =>
    Reads P (Instr.indexAt 29 t0 t30) h fun t31 =>
    pLoad P 5 t31 h fun t32 =>
    Reads P (binS .eql 5 true t32 (.int .u8 92)) h fun t33 =>
    boolV t33 fun b5 => bcase b5 (
      CallsH P 10 #[] h (fun t36_3 h3 =>
      R t36_3 h3) E) (
      J1 h)) (
    J1 h))))
  (fun h4 =>
  CallsH P 11 #[t0, (.bool true)] h4 (fun t39 h5 =>
  Reads P (Instr.extract t39 0) h5 fun t40 =>
  Reads P (Instr.extract t39 1) h5 fun t41 =>
  CallsH P 11 #[t1, (.bool true)] h5 (fun t44 h6 =>
  Reads P (Instr.extract t44 0) h6 fun t45 =>
  Reads P (Instr.extract t44 1) h6 fun t46 =>
  Runs P (vS (Instr.buildSlice 29 0 #[])) h6 (fun t48 h7 =>
  Runs P (builtin .append #[29, 29] 29 #[false, false] #[t48, t0]) h7 (fun t50 h8 =>
  Runs P (vS (Instr.buildSlice 29 1 #[(0, (.int .u8 124))])) h8 (fun t51 h9 =>
  Runs P (builtin .append #[29, 29] 29 #[false, false] #[t50, t51]) h9 (fun t52 h10 =>
  Runs P (builtin .append #[29, 29] 29 #[false, false] #[t52, t1]) h10 (fun t54 h11 =>
  CallsH P 11 #[t54, (.bool true)] h11 (fun t55 h12 =>
  Reads P (Instr.extract t55 0) h12 fun t56 =>
  Reads P (Instr.extract t55 1) h12 fun t57 =>
  Reads P (binS .neq 26 true t41 .nilIface) h12 fun t59 =>
  boolV t59 fun b6 => bcase b6 (
    CallsH P 17 #[t41] h12 (fun t61 h13 =>
    Reads P (Instr.field 42 t61 1) h13 fun t62 =>
    Reads P (builtinS .len #[29] 3 #[t0]) h13 fun t64 =>
    Reads P (binS .eql 3 false t62 t64) h13 fun t65 =>
    boolV t65 fun b7 => bcase b7 (
    Reads P (builtinS .len #[29] 3 #[t0]) h13 fun t68 =>
    Reads P (binS .gtr 3 true t68 (.int .i64 0)) h13 fun t69 =>
    boolV t69 fun b8 => bcase b8 (
    (undef = undef ∧ (R (.bool true) h13))) (
    CallsH P 17 #[t57] h13 (fun t73 h14 =>
    CallsH P 17 #[t41] h14 (fun t75 h15 =>
    Reads P (binS .eql 42 false t73 t75) h15 fun t76 =>
    boolV t76 fun b9 => bcase b9 (
    CallsH P 10 #[] h15 (fun t78 h16 =>
    R t78 h16) E) (
    R (.bool false) h15)) E) E)) (
    CallsH P 17 #[t57] h13 (fun t73_2 h17 =>
    CallsH P 17 #[t41] h17 (fun t75_2 h18 =>
    Reads P (binS .eql 42 false t73_2 t75_2) h18 fun t76_2 =>
    boolV t76_2 fun b10 => bcase b10 (
    CallsH P 10 #[] h18 (fun t78_2 h19 =>
    R t78_2 h19) E) (
    R (.bool false) h18)) E) E)) E) (
    CallsH P 12 #[t40] h12 (fun t82 h20 =>
  CallsH P 18 #[t1] h20 (fun t84 h21 =>
  Reads P (binS .add 3 false t82 t84) h21 fun t85 =>
  Reads P (binS .gtr 3 true t85 (.int .i64 9)) h21 fun t86 =>
  boolV t86 fun b11 => bcase b11 (
    CallsH P 10 #[] h21 (fun t87 h22 =>
    R t87 h22) E) (
    Reads P (binS .neq 26 true t46 .nilIface) h21 fun t89 =>
  boolV t89 fun b12 => bcase b12 (
    CallsH P 17 #[t46] h21 (fun t91 h23 =>
    CallsH P 17 #[t57] h23 (fun t93 h24 =>
    pAlloc P 42 h24 fun t11 h25 =>
    pAlloc P 42 h25 fun t12 h26 =>
    pStore P 42 t11 t91 h26 fun h27 =>
    pStore P 42 t12 t93 h27 fun h28 =>
    Reads P (Instr.fieldAt 42 t11 0) h28 fun t94 =>
    pLoad P 3 t94 h28 fun t95 =>
    Reads P (Instr.fieldAt 42 t12 0) h28 fun t96 =>
    pLoad P 3 t96 h28 fun t97 =>
    Reads P (binS .eql 3 false t95 t97) h28 fun t98 =>
    boolV t98 fun b13 => bcase b13 (
    Reads P (Instr.fieldAt 42 t12 1) h28 fun t100 =>
    pLoad P 3 t100 h28 fun t101 =>
    Reads P (Instr.fieldAt 42 t11 1) h28 fun t102 =>
    pLoad P 3 t102 h28 fun t103 =>
    Reads P (builtinS .len #[29] 3 #[t0]) h28 fun t105 =>
    Reads P (binS .add 3 false t103 t105) h28 fun t106 =>
    Reads P (binS .add 3 true t106 (.int .i64 1)) h28 fun t107 =>
    Reads P (binS .eql 3 false t101 t107) h28 fun t108 =>
    boolV t108 fun b14 => bcase b14 (
    CallsH P 10 #[] h28 (fun t111 h29 =>
    R t111 h29) E) (
    R (.bool false) h28)) (
    R (.bool false) h28)) E) E) (
    Join0 (fun J15 =>
    Reads P (binS .neq 26 true t57 .nilIface) h21 fun t114 =>
    boolV t114 fun b16 => bcase b16 (
    R (.bool false) h21) (
    CallsH P 12 #[t56] h21 (fun t117 h30 =>
    CallsH P 12 #[t40] h30 (fun t119 h31 =>
    CallsH P 12 #[t45] h31 (fun t121 h32 =>
    Reads P (binS .add 3 false t119 t121) h32 fun t122 =>
    Reads P (binS .neq 3 false t117 t122) h32 fun t123 =>
    boolV t123 fun b17 => bcase b17 (
      R (.bool false) h32) (
      J15 h32)) E) E) E))
  (fun h33 =>
  CallsH P 13 #[t56] h33 (fun t126 h34 =>
  pAlloc P 36 h34 fun t13 h35 =>
  pStore P 36 t13 t126 h35 fun h36 =>
  Reads P (Instr.fieldAt 36 t13 0) h36 fun t127 =>
  pLoad P 3 t127 h36 fun t128 =>
  Reads P (binS .eql 3 true t128 (.int .i64 5)) h36 fun t129 =>
  Stable h36 fun S18 =>
  boolV t129 fun b19 => bcase b19 (
  ReadsS P (Instr.fieldAt 36 t13 5) S18 fun t131 =>
  pLoadS P 34 t131 S18 fun t132 =>
  ReadsS P (builtinS .len #[34] 3 #[t132]) S18 fun t133 =>
  (CallsH P 13 #[t40] h36 (fun t135 h37 =>
  S18 h37 ∧ ((CallsH P 19 #[t135] h37 (fun t136 h38 =>
  S18 h38 ∧ ((CallsH P 13 #[t45] h38 (fun t138 h39 =>
  S18 h39 ∧ ((CallsH P 19 #[t138] h39 (fun t139 h40 =>
  S18 h40 ∧ (ReadsS P (binS .add 3 false t136 t139) S18 fun t140 =>
  Reads P (binS .eql 3 false t133 t140) h40 fun t141 =>
  (boolV t141 fun b20 => bcase b20 (
  CallsH P 10 #[] h40 (fun t144 h41 =>
  True ∧ (R t144 h41)) E) (
  R (.bool false) h40)) ∧ True)) E) ∧ True)) E) ∧ True)) E) ∧ True)) E) ∧ True) (
  (((((R (.bool false) h36) ∧ True) ∧ True) ∧ True) ∧ True) ∧ True)) E)))) E) E)) E) E) E) E) E) E) E) E)
theorem C5 {E : List PanicEntry → Heap → Prop} {t0 t1 : Value} {h : Heap} {R : Value → Heap → Prop} (hs : S5 Tryz.prog E t0 t1 h R) : CallsH Tryz.prog 5 #[t0, t1] h R E :=
  calls_of_vc H5 Tryz.mixed Tryz.func5 rfl (by kernel_rfl) (by kernel_rfl) (Eq.mp (show S5 Tryz.prog E t0 t1 h R = vcFun Tryz.prog H5 E Tryz.f5.results.toList _ [t0, t1] h R from by kernel_rfl) hs)

def H6 : Hints := { r := fun _ => none, s := fun i => match i with | 7 => some [8] | _ => none, l := fun _ => none, d := fun _ => none }
def S6 (P : Program) (E : List PanicEntry → Heap → Prop) (t0 t1 : Value) (h : Heap) (R : Value → Heap → Prop) : Prop :=
  CallsH P 11 #[t0, t1] h (fun t12 h1 =>
  Reads P (Instr.extract t12 0) h1 fun t13 =>
  Reads P (Instr.extract t12 1) h1 fun t14 =>
  CallsH P 17 #[t14] h1 (fun t16 h2 =>
  pAlloc P 42 h2 fun t7 h3 =>
  pStore P 42 t7 t16 h3 fun h4 =>
  Reads P (binS .neq 26 true t14 .nilIface) h4 fun t18 =>
  boolV t18 fun b1 => bcase b1 (
    Join1 (fun J2 =>
      boolV t1 fun b3 => bcase b3 (
        J2 (.int .i64 4) h4) (
        J2 (.int .i64 3) h4))
    (fun t8 h5 =>
    Reads P (binS .eql 24 true t13 (.pointer none)) h5 fun t21 =>
    boolV t21 fun b4 => bcase b4 (
    Reads P (Instr.fieldAt 42 t7 2) h5 fun t23 =>
    pLoad P 3 t23 h5 fun t24 =>
    Reads P (binS .eql 3 false t24 t8) h5 fun t26 =>
    boolV t26 fun b5 => bcase b5 (
    Reads P (Instr.fieldAt 42 t7 1) h5 fun t29 =>
    pLoad P 3 t29 h5 fun t30 =>
    Reads P (binS .geq 3 true t30 (.int .i64 0)) h5 fun t31 =>
    boolV t31 fun b6 => bcase b6 (
    Reads P (Instr.fieldAt 42 t7 1) h5 fun t34 =>
    pLoad P 3 t34 h5 fun t35 =>
    Reads P (builtinS .len #[29] 3 #[t0]) h5 fun t37 =>
    Reads P (binS .leq 3 false t35 t37) h5 fun t38 =>
    boolV t38 fun b7 => bcase b7 (
    Reads P (Instr.fieldAt 42 t7 0) h5 fun t41 =>
    pLoad P 3 t41 h5 fun t42 =>
    Reads P (binS .neq 3 true t42 (.int .i64 22)) h5 fun t43 =>
    boolV t43 fun b8 => bcase b8 (
    Reads P (Instr.fieldAt 42 t7 0) h5 fun t46 =>
    pLoad P 3 t46 h5 fun t47 =>
    Reads P (binS .eql 3 true t47 (.int .i64 2)) h5 fun t48 =>
    Reads P (builtinS .len #[29] 3 #[t0]) h5 fun t50 =>
    Reads P (binS .gtr 3 true t50 (.int .i64 256)) h5 fun t51 =>
    Reads P (binS .eql 4 false t48 t51) h5 fun t52 =>
    boolV t52 fun b9 => bcase b9 (
    CallsH P 10 #[] h5 (fun t55 h6 =>
    R t55 h6) E) (
    R (.bool false) h5)) (
    R (.bool false) h5)) (
    R (.bool false) h5)) (
    R (.bool false) h5)) (
    R (.bool false) h5)) (
    R (.bool false) h5))) (
    Reads P (binS .neq 24 true t13 (.pointer none)) h4 fun t58 =>
  boolV t58 fun b10 => bcase b10 (
  Reads P (builtinS .len #[29] 3 #[t0]) h4 fun t61 =>
  Reads P (binS .gtr 3 true t61 (.int .i64 0)) h4 fun t62 =>
  boolV t62 fun b11 => bcase b11 (
  CallsH P 12 #[t13] h4 (fun t66 h7 =>
  Reads P (binS .leq 3 true t66 (.int .i64 9)) h7 fun t67 =>
  boolV t67 fun b12 => bcase b12 (
  CallsH P 13 #[t13] h7 (fun t71 h8 =>
  Reads P (Instr.field 36 t71 0) h8 fun t72 =>
  Reads P (binS .geq 3 true t72 (.int .i64 1)) h8 fun t73 =>
  boolV t73 fun b13 => bcase b13 (
  CallsH P 10 #[] h8 (fun t76 h9 =>
  R t76 h9) E) (
  R (.bool false) h8)) E) (
  R (.bool false) h7)) E) (
  R (.bool false) h4)) (
  R (.bool false) h4))) E) E
theorem C6 {E : List PanicEntry → Heap → Prop} {t0 t1 : Value} {h : Heap} {R : Value → Heap → Prop} (hs : S6 Tryz.prog E t0 t1 h R) : CallsH Tryz.prog 6 #[t0, t1] h R E :=
  calls_of_vc H6 Tryz.mixed Tryz.func6 rfl (by kernel_rfl) (by kernel_rfl) (Eq.mp (show S6 Tryz.prog E t0 t1 h R = vcFun Tryz.prog H6 E Tryz.f6.results.toList _ [t0, t1] h R from by kernel_rfl) hs)

def H9 : Hints := { r := fun _ => none, s := fun _ => none, l := fun i => match i with | 3 => some [5, 10] | _ => none, d := fun _ => none }
def S9 (P : Program) (E : List PanicEntry → Heap → Prop) (t0 t1 : Value) (h : Heap) (R : Value → Heap → Prop) : Prop :=
  Reads P (builtinS .len #[9] 3 #[t0]) h fun t9 =>
  Loop2 (.slice none 0 0) (.int .i64 0) h (fun C1 t5 t10 h1 =>
    Reads P (binS .lss 3 false t10 t9) h1 fun t11 =>
    boolV t11 fun b2 => bcase b2 (
      Reads P (Instr.index 9 t0 t10) h1 fun t15 =>
    Reads P (binS .eql 5 true t15 (.int .u8 10)) h1 fun t18 =>
    boolV t18 fun b3 => bcase b3 (
      Runs P (vS (Instr.buildSlice 29 1 #[(0, (.int .u8 92))])) h1 (fun t30 h2 =>
    Runs P (builtin .append #[29, 29] 29 #[false, false] #[t5, t30]) h2 (fun t31 h3 =>
    Runs P (vS (Instr.buildSlice 29 1 #[(0, (.int .u8 110))])) h3 (fun t34 h4 =>
    Runs P (builtin .append #[29, 29] 29 #[false, false] #[t31, t34]) h4 (fun t35 h5 =>
    Reads P (binS .add 3 true t10 (.int .i64 1)) h5 fun t36 =>
    C1 t35 t36 h5) E) E) E) E) (
      CallsH P 24 #[(str [46, 91, 93, 42, 94, 36, 47, 92]), t15] h1 (fun t21 h6 =>
    Reads P (binS .geq 3 true t21 (.int .i64 0)) h6 fun t22 =>
    boolV t22 fun b4 => bcase b4 (
      Runs P (vS (Instr.buildSlice 29 1 #[(0, (.int .u8 92))])) h6 (fun t30_2 h7 =>
    Runs P (builtin .append #[29, 29] 29 #[false, false] #[t5, t30_2]) h7 (fun t31_2 h8 =>
    Runs P (vS (Instr.buildSlice 29 1 #[(0, t15)])) h8 (fun t34_2 h9 =>
    Runs P (builtin .append #[29, 29] 29 #[false, false] #[t31_2, t34_2]) h9 (fun t35_2 h10 =>
    Reads P (binS .add 3 true t10 (.int .i64 1)) h10 fun t36_2 =>
    C1 t35_2 t36_2 h10) E) E) E) E) (
      boolV t1 fun b5 => bcase b5 (
      CallsH P 24 #[(str [40, 41, 43, 63, 123, 125, 124]), t15] h6 (fun t26 h11 =>
      Reads P (binS .geq 3 true t26 (.int .i64 0)) h11 fun t27 =>
      boolV t27 fun b6 => bcase b6 (
      Runs P (vS (Instr.buildSlice 29 1 #[(0, (.int .u8 92))])) h11 (fun t30_3 h12 =>
    Runs P (builtin .append #[29, 29] 29 #[false, false] #[t5, t30_3]) h12 (fun t31_3 h13 =>
    Runs P (vS (Instr.buildSlice 29 1 #[(0, t15)])) h13 (fun t34_3 h14 =>
    Runs P (builtin .append #[29, 29] 29 #[false, false] #[t31_3, t34_3]) h14 (fun t35_3 h15 =>
    Reads P (binS .add 3 true t10 (.int .i64 1)) h15 fun t36_3 =>
    C1 t35_3 t36_3 h15) E) E) E) E) (
      Runs P (vS (Instr.buildSlice 29 1 #[(0, t15)])) h11 (fun t34_4 h16 =>
    Runs P (builtin .append #[29, 29] 29 #[false, false] #[t5, t34_4]) h16 (fun t35_4 h17 =>
    Reads P (binS .add 3 true t10 (.int .i64 1)) h17 fun t36_4 =>
    C1 t35_4 t36_4 h17) E) E)) E) (
      Runs P (vS (Instr.buildSlice 29 1 #[(0, t15)])) h6 (fun t34_5 h18 =>
    Runs P (builtin .append #[29, 29] 29 #[false, false] #[t5, t34_5]) h18 (fun t35_5 h19 =>
    Reads P (binS .add 3 true t10 (.int .i64 1)) h19 fun t36_5 =>
    C1 t35_5 t36_5 h19) E) E))) E)) (
      Reads P (convert 29 9 t5) h1 fun t38 =>
  R t38 h1))
theorem C9 {E : List PanicEntry → Heap → Prop} {t0 t1 : Value} {h : Heap} {R : Value → Heap → Prop} (hs : S9 Tryz.prog E t0 t1 h R) : CallsH Tryz.prog 9 #[t0, t1] h R E :=
  calls_of_vc H9 Tryz.mixed Tryz.func9 rfl (by kernel_rfl) (by kernel_rfl) (Eq.mp (show S9 Tryz.prog E t0 t1 h R = vcFun Tryz.prog H9 E Tryz.f9.results.toList _ [t0, t1] h R from by kernel_rfl) hs)

def H10 : Hints := { r := fun _ => none, s := fun _ => none, l := fun _ => none, d := fun _ => none }
def S10 (P : Program) (E : List PanicEntry → Heap → Prop) (h : Heap) (R : Value → Heap → Prop) : Prop :=
  Runs P (vS (Instr.buildSlice 29 6 #[(0, (.int .u8 40)), (1, (.int .u8 97)), (2, (.int .u8 124)), (3, (.int .u8 98)), (4, (.int .u8 41)), (5, (.int .u8 43))])) h (fun t4 h1 =>
  Runs P (vS (convert 29 29 t4)) h1 (fun t5 h2 =>
  CallsH P 11 #[t5, (.bool true)] h2 (fun t6 h3 =>
  Reads P (Instr.extract t6 0) h3 fun t7 =>
  Reads P (Instr.extract t6 1) h3 fun t8 =>
  Reads P (binS .eql 26 true t8 .nilIface) h3 fun t10 =>
  boolV t10 fun b1 => bcase b1 (
  Reads P (binS .neq 24 true t7 (.pointer none)) h3 fun t13 =>
  boolV t13 fun b2 => bcase b2 (
  CallsH P 21 #[t7] h3 (fun t17 h4 =>
  Reads P (binS .eql 9 true t17 (str [40, 114, 101, 112, 32, 49, 32, 45, 32, 40, 103, 114, 111, 117, 112, 32, 49, 32, 40, 97, 108, 116, 32, 91, 54, 49, 93, 32, 91, 54, 50, 93, 41, 41, 41])) h4 fun t18 =>
  R t18 h4) E) (
  R (.bool false) h3)) (
  R (.bool false) h3)) E) E) E
theorem C10 {E : List PanicEntry → Heap → Prop} {h : Heap} {R : Value → Heap → Prop} (hs : S10 Tryz.prog E  h R) : CallsH Tryz.prog 10 #[] h R E :=
  calls_of_vc H10 Tryz.mixed Tryz.func10 rfl (by kernel_rfl) (by kernel_rfl) (Eq.mp (show S10 Tryz.prog E  h R = vcFun Tryz.prog H10 E Tryz.f10.results.toList _ [] h R from by kernel_rfl) hs)

def H12 : Hints := { r := fun _ => none, s := fun _ => none, l := fun _ => none, d := fun _ => none }
def S12 (P : Program) (E : List PanicEntry → Heap → Prop) (t0 : Value) (h : Heap) (R : Value → Heap → Prop) : Prop :=
  Reads P (binS .eql 24 true t0 (.pointer none)) h fun t4 =>
  boolV t4 fun b1 => bcase b1 (
    R (.int .i64 0) h) (
    Reads P (nilS t0) h fun t6 =>
  Reads P (Instr.fieldAt 66 t6 1) h fun t7 =>
  pLoad P 3 t7 h fun t8 =>
  R t8 h)
theorem C12 {E : List PanicEntry → Heap → Prop} {t0 : Value} {h : Heap} {R : Value → Heap → Prop} (hs : S12 Tryz.prog E t0 h R) : CallsH Tryz.prog 12 #[t0] h R E :=
  calls_of_vc H12 Tryz.mixed Tryz.func12 rfl (by kernel_rfl) (by kernel_rfl) (Eq.mp (show S12 Tryz.prog E t0 h R = vcFun Tryz.prog H12 E Tryz.f12.results.toList _ [t0] h R from by kernel_rfl) hs)

def H13 : Hints := { r := fun _ => none, s := fun _ => none, l := fun _ => none, d := fun _ => none }
def S13 (P : Program) (E : List PanicEntry → Heap → Prop) (t0 : Value) (h : Heap) (R : Value → Heap → Prop) : Prop :=
  pAlloc P 36 h fun t2 h1 =>
  Reads P (binS .eql 24 true t0 (.pointer none)) h1 fun t4 =>
  boolV t4 fun b1 => bcase b1 (
    Reads P (Instr.build 36 #[]) h1 fun t5 =>
    pStore P 36 t2 t5 h1 fun h2 =>
    pLoad P 36 t2 h2 fun r2 => R r2 h2) (
    Reads P (nilS t0) h1 fun t7 =>
  Reads P (Instr.fieldAt 66 t7 0) h1 fun t8 =>
  pLoad P 36 t8 h1 fun t9 =>
  CallsH P 32 #[t9] h1 (fun t10 h3 =>
  pStore P 36 t2 t10 h3 fun h4 =>
  pLoad P 36 t2 h4 fun r3 => R r3 h4) E)
theorem C13 {E : List PanicEntry → Heap → Prop} {t0 : Value} {h : Heap} {R : Value → Heap → Prop} (hs : S13 Tryz.prog E t0 h R) : CallsH Tryz.prog 13 #[t0] h R E :=
  calls_of_vc H13 Tryz.mixed Tryz.func13 rfl (by kernel_rfl) (by kernel_rfl) (Eq.mp (show S13 Tryz.prog E t0 h R = vcFun Tryz.prog H13 E Tryz.f13.results.toList _ [t0] h R from by kernel_rfl) hs)

def H14 : Hints := { r := fun _ => none, s := fun i => match i with | 3 => some [] | _ => none, l := fun i => match i with | 4 => some [51] | _ => none, d := fun i => match i with | 6 => some (.cut 1 (.take 0 (.take 1 (.take 2 (.take 3 (.take 4 (.take 5 (.take 6 (.take 7 (.take 8 (.take 9 (.cut 0 (.act 10 (.cut 1 (.take 11 .done)) .stop))))))))))))) | _ => none }
def S14 (P : Program) (E : List PanicEntry → Heap → Prop) (t0 t1 : Value) (h : Heap) (R : Value → Heap → Prop) : Prop :=
  pNew 36 t0 h fun t2 h1 =>
  pNew 36 t1 h1 fun t3 h2 =>
  Join0 (fun J1 =>
    Reads P (Instr.fieldAt 36 t2 0) h2 fun t6 =>
    pLoad P 3 t6 h2 fun t7 =>
    Reads P (Instr.fieldAt 36 t3 0) h2 fun t8 =>
    pLoad P 3 t8 h2 fun t9 =>
    Reads P (binS .neq 3 false t7 t9) h2 fun t10 =>
    boolV t10 fun b2 => bcase b2 (
    R (.bool false) h2) (
    Reads P (Instr.fieldAt 36 t2 1) h2 fun t12 =>
    pLoad P 33 t12 h2 fun t13 =>
    Reads P (Instr.fieldAt 36 t3 1) h2 fun t14 =>
    pLoad P 33 t14 h2 fun t15 =>
    Reads P (binS .neq 33 false t13 t15) h2 fun t16 =>
    boolV t16 fun b3 => bcase b3 (
    R (.bool false) h2) (
    Reads P (Instr.fieldAt 36 t2 2) h2 fun t19 =>
    pLoad P 3 t19 h2 fun t20 =>
    Reads P (Instr.fieldAt 36 t3 2) h2 fun t21 =>
    pLoad P 3 t21 h2 fun t22 =>
    Reads P (binS .neq 3 false t20 t22) h2 fun t23 =>
    boolV t23 fun b4 => bcase b4 (
    R (.bool false) h2) (
    Reads P (Instr.fieldAt 36 t2 3) h2 fun t26 =>
    pLoad P 3 t26 h2 fun t27 =>
    Reads P (Instr.fieldAt 36 t3 3) h2 fun t28 =>
    pLoad P 3 t28 h2 fun t29 =>
    Reads P (binS .neq 3 false t27 t29) h2 fun t30 =>
    boolV t30 fun b5 => bcase b5 (
    R (.bool false) h2) (
    Reads P (Instr.fieldAt 36 t2 4) h2 fun t33 =>
    pLoad P 3 t33 h2 fun t34 =>
    Reads P (Instr.fieldAt 36 t3 4) h2 fun t35 =>
    pLoad P 3 t35 h2 fun t36 =>
    Reads P (binS .neq 3 false t34 t36) h2 fun t37 =>
    boolV t37 fun b6 => bcase b6 (
    R (.bool false) h2) (
    Reads P (Instr.fieldAt 36 t2 5) h2 fun t40 =>
    pLoad P 34 t40 h2 fun t41 =>
    Reads P (builtinS .len #[34] 3 #[t41]) h2 fun t42 =>
    Reads P (Instr.fieldAt 36 t3 5) h2 fun t43 =>
    pLoad P 34 t43 h2 fun t44 =>
    Reads P (builtinS .len #[34] 3 #[t44]) h2 fun t45 =>
    Reads P (binS .neq 3 false t42 t45) h2 fun t46 =>
    boolV t46 fun b7 => bcase b7 (
      R (.bool false) h2) (
      J1 h2)))))))
  (fun h3 =>
  Reads P (Instr.fieldAt 36 t2 5) h3 fun t48 =>
  pLoad P 34 t48 h3 fun t49 =>
  Reads P (builtinS .len #[34] 3 #[t49]) h3 fun t50 =>
  Loop1 (.int .i64 0) h3 (fun C8 t51 h4 =>
    Reads P (binS .lss 3 false t51 t50) h4 fun t52 =>
    boolV t52 fun b9 => bcase b9 (
      Reads P (Instr.fieldAt 36 t2 5) h4 fun t54 =>
    pLoad P 34 t54 h4 fun t55 =>
    Reads P (Instr.indexAt 34 t55 t51) h4 fun t57 =>
    pLoad P 36 t57 h4 fun t58 =>
    Reads P (Instr.fieldAt 36 t3 5) h4 fun t59 =>
    pLoad P 34 t59 h4 fun t60 =>
    Reads P (Instr.indexAt 34 t60 t51) h4 fun t62 =>
    pLoad P 36 t62 h4 fun t63 =>
    (CallsH P 14 #[t58, t63] h4 (fun t64 h5 =>
    True ∧ (Reads P (Op.unary .not t64) h5 fun t65 =>
    boolV t65 fun b10 => bcase b10 (
      R (.bool false) h5) (
      Reads P (binS .add 3 true t51 (.int .i64 1)) h5 fun t66 =>
    C8 t66 h5))) E) ∧ True) (
      R (.bool true) h4)))
theorem C14 {E : List PanicEntry → Heap → Prop} {t0 t1 : Value} {h : Heap} {R : Value → Heap → Prop} (hs : S14 Tryz.prog E t0 t1 h R) : CallsH Tryz.prog 14 #[t0, t1] h R E :=
  calls_of_vc H14 Tryz.mixed Tryz.func14 rfl (by kernel_rfl) (by kernel_rfl) (Eq.mp (show S14 Tryz.prog E t0 t1 h R = vcFun Tryz.prog H14 E Tryz.f14.results.toList _ [t0, t1] h R from by kernel_rfl) hs)

def H15 : Hints := { r := fun _ => none, s := fun _ => none, l := fun _ => none, d := fun _ => none }
def S15 (P : Program) (E : List PanicEntry → Heap → Prop) (t0 : Value) (h : Heap) (R : Value → Heap → Prop) : Prop :=
  pAlloc P 36 h fun t2 h1 =>
  Reads P (Instr.build 33 #[]) h1 fun t3 =>
  CallsH P 33 #[t3, t0] h1 (fun t5 h2 =>
  Reads P (Instr.build 36 #[(0, (.int .i64 1)), (1, t5)]) h2 fun t6 =>
  pStore P 36 t2 t6 h2 fun h3 =>
  pLoad P 36 t2 h3 fun r1 => R r1 h3) E
theorem C15 {E : List PanicEntry → Heap → Prop} {t0 : Value} {h : Heap} {R : Value → Heap → Prop} (hs : S15 Tryz.prog E t0 h R) : CallsH Tryz.prog 15 #[t0] h R E :=
  calls_of_vc H15 Tryz.mixed Tryz.func15 rfl (by kernel_rfl) (by kernel_rfl) (Eq.mp (show S15 Tryz.prog E t0 h R = vcFun Tryz.prog H15 E Tryz.f15.results.toList _ [t0] h R from by kernel_rfl) hs)

def H17 : Hints := { r := fun _ => none, s := fun i => match i with | 12 => some [] | _ => none, l := fun i => match i with | 5 => some [4] | _ => none, d := fun _ => none }
def S17 (P : Program) (E : List PanicEntry → Heap → Prop) (t0 : Value) (h : Heap) (R : Value → Heap → Prop) : Prop :=
  pAlloc P 42 h fun t2 h1 =>
  Reads P (binS .eql 26 true t0 .nilIface) h1 fun t8 =>
  boolV t8 fun b1 => bcase b1 (
    Reads P (Instr.build 42 #[]) h1 fun t9 =>
    pStore P 42 t2 t9 h1 fun h2 =>
    pLoad P 42 t2 h2 fun r2 => R r2 h2) (
    Reads P (Instr.build 42 #[(0, (.int .i64 22))]) h1 fun t10 =>
  pAlloc P 42 h1 fun t3 h3 =>
  pStore P 42 t3 t10 h3 fun h4 =>
  Loop1 (.int .i64 21) h4 (fun C3 t4 h5 =>
    Reads P (binS .geq 3 true t4 (.int .i64 1)) h5 fun t12 =>
    boolV t12 fun b4 => bcase b4 (
      CallsH P 43 #[t0, t4] h5 (fun t17 h6 =>
    boolV t17 fun b5 => bcase b5 (
      Reads P (Instr.fieldAt 42 t3 0) h6 fun t19 =>
      pStore P 3 t19 t4 h6 fun h7 =>
      Reads P (binS .sub 3 true t4 (.int .i64 1)) h7 fun t14 =>
    C3 t14 h7) (
      Reads P (binS .sub 3 true t4 (.int .i64 1)) h6 fun t14_2 =>
    C3 t14_2 h6)) E) (
      pAlloc P 77 h5 fun t5 h8 =>
  Join0 (fun J6 =>
    Reads P (Instr.makeInterface 78 t5) h8 fun t21 =>
    CallsH P 30 #[t0, t21] h8 (fun t22 h9 =>
    boolV t22 fun b7 => bcase b7 (
      pLoad P 77 t5 h9 fun t23 =>
      Reads P (nilS t23) h9 fun t24 =>
      Reads P (Instr.fieldAt 80 t24 1) h9 fun t25 =>
      pLoad P 3 t25 h9 fun t26 =>
      Reads P (Instr.fieldAt 42 t3 1) h9 fun t27 =>
      pStore P 3 t27 t26 h9 fun h10 =>
      J6 h10) (
      J6 h9)) E)
  (fun h11 =>
  pAlloc P 81 h11 fun t6 h12 =>
  Reads P (Instr.makeInterface 82 t6) h12 fun t29 =>
  CallsH P 30 #[t0, t29] h12 (fun t30 h13 =>
  boolV t30 fun b8 => bcase b8 (
    pLoad P 81 t6 h13 fun t31 =>
    Reads P (nilS t31) h13 fun t32 =>
    Reads P (Instr.fieldAt 84 t32 1) h13 fun t33 =>
    pLoad P 3 t33 h13 fun t34 =>
    Reads P (Instr.fieldAt 42 t3 2) h13 fun t35 =>
    pStore P 3 t35 t34 h13 fun h14 =>
    pLoad P 42 t3 h14 fun t36 =>
  pStore P 42 t2 t36 h14 fun h15 =>
  pLoad P 42 t2 h15 fun r9 => R r9 h15) (
    pLoad P 42 t3 h13 fun t36_2 =>
  pStore P 42 t2 t36_2 h13 fun h16 =>
  pLoad P 42 t2 h16 fun r10 => R r10 h16)) E))))
theorem C17 {E : List PanicEntry → Heap → Prop} {t0 : Value} {h : Heap} {R : Value → Heap → Prop} (hs : S17 Tryz.prog E t0 h R) : CallsH Tryz.prog 17 #[t0] h R E :=
  calls_of_vc H17 Tryz.mixed Tryz.func17 rfl (by kernel_rfl) (by kernel_rfl) (Eq.mp (show S17 Tryz.prog E t0 h R = vcFun Tryz.prog H17 E Tryz.f17.results.toList _ [t0] h R from by kernel_rfl) hs)

def H18 : Hints := { r := fun _ => none, s := fun _ => none, l := fun i => match i with | 3 => some [3, 8] | _ => none, d := fun _ => none }
def S18 (P : Program) (E : List PanicEntry → Heap → Prop) (t0 : Value) (h : Heap) (R : Value → Heap → Prop) : Prop :=
  Reads P (builtinS .len #[29] 3 #[t0]) h fun t7 =>
  Loop2 (.int .i64 0) (.int .i64 0) h (fun C1 t3 t8 h1 =>
    Reads P (binS .lss 3 false t8 t7) h1 fun t9 =>
    boolV t9 fun b2 => bcase b2 (
      Reads P (Instr.indexAt 29 t0 t8) h1 fun t10 =>
    pLoad P 5 t10 h1 fun t11 =>
    Reads P (binS .eql 5 true t11 (.int .u8 40)) h1 fun t13 =>
    boolV t13 fun b3 => bcase b3 (
      Reads P (binS .add 3 true t3 (.int .i64 1)) h1 fun t15 =>
      Reads P (binS .add 3 true t8 (.int .i64 1)) h1 fun t16 =>
    C1 t15 t16 h1) (
      Reads P (binS .add 3 true t8 (.int .i64 1)) h1 fun t16_2 =>
    C1 t3 t16_2 h1)) (
      R t3 h1))
theorem C18 {E : List PanicEntry → Heap → Prop} {t0 : Value} {h : Heap} {R : Value → Heap → Prop} (hs : S18 Tryz.prog E t0 h R) : CallsH Tryz.prog 18 #[t0] h R E :=
  calls_of_vc H18 Tryz.mixed Tryz.func18 rfl (by kernel_rfl) (by kernel_rfl) (Eq.mp (show S18 Tryz.prog E t0 h R = vcFun Tryz.prog H18 E Tryz.f18.results.toList _ [t0] h R from by kernel_rfl) hs)

def H19 : Hints := { r := fun _ => none, s := fun _ => none, l := fun _ => none, d := fun _ => none }
def S19 (P : Program) (E : List PanicEntry → Heap → Prop) (t0 : Value) (h : Heap) (R : Value → Heap → Prop) : Prop :=
  pNew 36 t0 h fun t1 h1 =>
  Reads P (Instr.fieldAt 36 t1 0) h1 fun t3 =>
  pLoad P 3 t3 h1 fun t4 =>
  Reads P (binS .eql 3 true t4 (.int .i64 5)) h1 fun t5 =>
  boolV t5 fun b1 => bcase b1 (
    Reads P (Instr.fieldAt 36 t1 5) h1 fun t6 =>
    pLoad P 34 t6 h1 fun t7 =>
    Reads P (builtinS .len #[34] 3 #[t7]) h1 fun t8 =>
    R t8 h1) (
    R (.int .i64 1) h1)
theorem C19 {E : List PanicEntry → Heap → Prop} {t0 : Value} {h : Heap} {R : Value → Heap → Prop} (hs : S19 Tryz.prog E t0 h R) : CallsH Tryz.prog 19 #[t0] h R E :=
  calls_of_vc H19 Tryz.mixed Tryz.func19 rfl (by kernel_rfl) (by kernel_rfl) (Eq.mp (show S19 Tryz.prog E t0 h R = vcFun Tryz.prog H19 E Tryz.f19.results.toList _ [t0] h R from by kernel_rfl) hs)

def H21 : Hints := { r := fun _ => none, s := fun i => match i with | 3 => some [] | _ => none, l := fun _ => none, d := fun _ => none }
def S21 (P : Program) (E : List PanicEntry → Heap → Prop) (t0 : Value) (h : Heap) (R : Value → Heap → Prop) : Prop :=
  Join0 (fun J1 =>
    Reads P (binS .eql 24 true t0 (.pointer none)) h fun t5 =>
    boolV t5 fun b2 => bcase b2 (
    R (str []) h) (
    Reads P (nilS t0) h fun t8 =>
    Reads P (Instr.fieldAt 66 t8 0) h fun t9 =>
    Reads P (Instr.fieldAt 36 t9 0) h fun t10 =>
    pLoad P 3 t10 h fun t11 =>
    Reads P (binS .eql 3 true t11 (.int .i64 0)) h fun t12 =>
    boolV t12 fun b3 => bcase b3 (
      R (str []) h) (
      J1 h)))
  (fun h1 =>
  pAlloc P 87 h1 fun t3 h2 =>
  Reads P (nilS t0) h2 fun t15 =>
  Reads P (Instr.fieldAt 66 t15 0) h2 fun t16 =>
  pLoad P 36 t16 h2 fun t17 =>
  CallsH P 44 #[t3, t17] h2 (fun t18 h3 =>
  CallsH P 45 #[t3] h3 (fun t19 h4 =>
  R t19 h4) E) E)
theorem C21 {E : List PanicEntry → Heap → Prop} {t0 : Value} {h : Heap} {R : Value → Heap → Prop} (hs : S21 Tryz.prog E t0 h R) : CallsH Tryz.prog 21 #[t0] h R E :=
  calls_of_vc H21 Tryz.mixed Tryz.func21 rfl (by kernel_rfl) (by kernel_rfl) (Eq.mp (show S21 Tryz.prog E t0 h R = vcFun Tryz.prog H21 E Tryz.f21.results.toList _ [t0] h R from by kernel_rfl) hs)

def H24 : Hints := { r := fun _ => none, s := fun _ => none, l := fun _ => none, d := fun _ => none }
def S24 (P : Program) (E : List PanicEntry → Heap → Prop) (t0 t1 : Value) (h : Heap) (R : Value → Heap → Prop) : Prop :=
  CallsH P 49 #[t0, t1] h (fun t7 h1 =>
  R t7 h1) E
theorem C24 {E : List PanicEntry → Heap → Prop} {t0 t1 : Value} {h : Heap} {R : Value → Heap → Prop} (hs : S24 Tryz.prog E t0 t1 h R) : CallsH Tryz.prog 24 #[t0, t1] h R E :=
  calls_of_vc H24 Tryz.mixed Tryz.func24 rfl (by kernel_rfl) (by kernel_rfl) (Eq.mp (show S24 Tryz.prog E t0 t1 h R = vcFun Tryz.prog H24 E Tryz.f24.results.toList _ [t0, t1] h R from by kernel_rfl) hs)

def H25 : Hints := { r := fun _ => none, s := fun _ => none, l := fun _ => none, d := fun _ => none }
def S25 (P : Program) (E : List PanicEntry → Heap → Prop) (t0 t1 : Value) (h : Heap) (R : Value → Heap → Prop) : Prop :=
  Reads P (binS .eql 26 true t0 .nilIface) h fun t6 =>
  boolV t6 fun b1 => bcase b1 (
    R .nilIface h) (
    Reads P (Instr.build 84 #[(0, t0), (1, t1)]) h fun t9 =>
  pNew 84 t9 h fun t10 h1 =>
  Reads P (Instr.makeInterface 81 t10) h1 fun t11 =>
  R t11 h1)
theorem C25 {E : List PanicEntry → Heap → Prop} {t0 t1 : Value} {h : Heap} {R : Value → Heap → Prop} (hs : S25 Tryz.prog E t0 t1 h R) : CallsH Tryz.prog 25 #[t0, t1] h R E :=
  calls_of_vc H25 Tryz.mixed Tryz.func25 rfl (by kernel_rfl) (by kernel_rfl) (Eq.mp (show S25 Tryz.prog E t0 t1 h R = vcFun Tryz.prog H25 E Tryz.f25.results.toList _ [t0, t1] h R from by kernel_rfl) hs)

def H26 : Hints := { r := fun _ => none, s := fun _ => none, l := fun _ => none, d := fun _ => none }
def S26 (P : Program) (E : List PanicEntry → Heap → Prop) (t0 t1 : Value) (h : Heap) (R : Value → Heap → Prop) : Prop :=
  Reads P (binS .eql 26 true t0 .nilIface) h fun t6 =>
  boolV t6 fun b1 => bcase b1 (
    R .nilIface h) (
    Reads P (Instr.build 80 #[(0, t0), (1, t1)]) h fun t9 =>
  pNew 80 t9 h fun t10 h1 =>
  Reads P (Instr.makeInterface 77 t10) h1 fun t11 =>
  R t11 h1)
theorem C26 {E : List PanicEntry → Heap → Prop} {t0 t1 : Value} {h : Heap} {R : Value → Heap → Prop} (hs : S26 Tryz.prog E t0 t1 h R) : CallsH Tryz.prog 26 #[t0, t1] h R E :=
  calls_of_vc H26 Tryz.mixed Tryz.func26 rfl (by kernel_rfl) (by kernel_rfl) (Eq.mp (show S26 Tryz.prog E t0 t1 h R = vcFun Tryz.prog H26 E Tryz.f26.results.toList _ [t0, t1] h R from by kernel_rfl) hs)

def H27 : Hints := { r := fun _ => none, s := fun _ => none, l := fun _ => none, d := fun _ => none }
def S27 (P : Program) (E : List PanicEntry → Heap → Prop) (t0 : Value) (h : Heap) (R : Value → Heap → Prop) : Prop :=
  Reads P (binS .eql 3 true t0 (.int .i64 1)) h fun t5 =>
  boolV t5 fun b1 => bcase b1 (
    pLoad P 26 (.pointer (some ⟨0, 0, none⟩)) h fun t6 =>
    R t6 h) (
    Reads P (binS .eql 3 true t0 (.int .i64 2)) h fun t8 =>
    boolV t8 fun b2 => bcase b2 (
      pLoad P 26 (.pointer (some ⟨1, 0, none⟩)) h fun t9 =>
      R t9 h) (
      Reads P (binS .eql 3 true t0 (.int .i64 3)) h fun t11 =>
      boolV t11 fun b3 => bcase b3 (
        pLoad P 26 (.pointer (some ⟨2, 0, none⟩)) h fun t12 =>
        R t12 h) (
        Reads P (binS .eql 3 true t0 (.int .i64 4)) h fun t14 =>
        boolV t14 fun b4 => bcase b4 (
          pLoad P 26 (.pointer (some ⟨3, 0, none⟩)) h fun t15 =>
          R t15 h) (
          Reads P (binS .eql 3 true t0 (.int .i64 5)) h fun t17 =>
          boolV t17 fun b5 => bcase b5 (
            pLoad P 26 (.pointer (some ⟨4, 0, none⟩)) h fun t18 =>
            R t18 h) (
            Reads P (binS .eql 3 true t0 (.int .i64 6)) h fun t20 =>
            boolV t20 fun b6 => bcase b6 (
              pLoad P 26 (.pointer (some ⟨5, 0, none⟩)) h fun t21 =>
              R t21 h) (
              Reads P (binS .eql 3 true t0 (.int .i64 7)) h fun t23 =>
              boolV t23 fun b7 => bcase b7 (
                pLoad P 26 (.pointer (some ⟨6, 0, none⟩)) h fun t24 =>
                R t24 h) (
                Reads P (binS .eql 3 true t0 (.int .i64 8)) h fun t26 =>
                boolV t26 fun b8 => bcase b8 (
                  pLoad P 26 (.pointer (some ⟨7, 0, none⟩)) h fun t27 =>
                  R t27 h) (
                  Reads P (binS .eql 3 true t0 (.int .i64 9)) h fun t29 =>
                  boolV t29 fun b9 => bcase b9 (
                    pLoad P 26 (.pointer (some ⟨8, 0, none⟩)) h fun t30 =>
                    R t30 h) (
                    Reads P (binS .eql 3 true t0 (.int .i64 10)) h fun t32 =>
                    boolV t32 fun b10 => bcase b10 (
                      pLoad P 26 (.pointer (some ⟨9, 0, none⟩)) h fun t33 =>
                      R t33 h) (
                      CallsH P 50 #[t0] h (fun t35 h1 =>
  R t35 h1) E))))))))))
theorem C27 {E : List PanicEntry → Heap → Prop} {t0 : Value} {h : Heap} {R : Value → Heap → Prop} (hs : S27 Tryz.prog E t0 h R) : CallsH Tryz.prog 27 #[t0] h R E :=
  calls_of_vc H27 Tryz.mixed Tryz.func27 rfl (by kernel_rfl) (by kernel_rfl) (Eq.mp (show S27 Tryz.prog E t0 h R = vcFun Tryz.prog H27 E Tryz.f27.results.toList _ [t0] h R from by kernel_rfl) hs)

def H28 : Hints := { r := fun _ => none, s := fun _ => none, l := fun _ => none, d := fun _ => none }
def S28 (P : Program) (E : List PanicEntry → Heap → Prop) (t0 : Value) (h : Heap) (R : Value → Heap → Prop) : Prop :=
  Reads P (nilS t0) h fun t4 =>
  Reads P (Instr.fieldAt 57 t4 2) h fun t5 =>
  pLoad P 4 t5 h fun t6 =>
  boolV t6 fun b1 => bcase b1 (
    R (.int .i64 4) h) (
    R (.int .i64 3) h)
theorem C28 {E : List PanicEntry → Heap → Prop} {t0 : Value} {h : Heap} {R : Value → Heap → Prop} (hs : S28 Tryz.prog E t0 h R) : CallsH Tryz.prog 28 #[t0] h R E :=
  calls_of_vc H28 Tryz.mixed Tryz.func28 rfl (by kernel_rfl) (by kernel_rfl) (Eq.mp (show S28 Tryz.prog E t0 h R = vcFun Tryz.prog H28 E Tryz.f28.results.toList _ [t0] h R from by kernel_rfl) hs)

def H30 : Hints := { r := fun _ => none, s := fun i => match i with | 5 => some [] | 9 => some [] | _ => none, l := fun _ => none, d := fun _ => none }
def S30 (P : Program) (E : List PanicEntry → Heap → Prop) (t0 t1 : Value) (h : Heap) (R : Value → Heap → Prop) : Prop :=
  Reads P (binS .eql 26 true t0 .nilIface) h fun t9 =>
  boolV t9 fun b1 => bcase b1 (
    R (.bool false) h) (
    Join0 (fun J2 =>
    Reads P (binS .eql 20 true t1 .nilIface) h fun t11 =>
    boolV t11 fun b3 => bcase b3 (
      Reads P (Instr.makeInterface 9 (str [101, 114, 114, 111, 114, 115, 58, 32, 116, 97, 114, 103, 101, 116, 32, 99, 97, 110, 110, 111, 116, 32, 98, 101, 32, 110, 105, 108])) h fun t12 =>
      Runs P (vS (Instr.panic t12)) h (fun u4 h1 =>
      J2 h1) E) (
      J2 h))
  (fun h2 =>
  Runs P ((do let d ← Deferred.ofValue (.func (.func 51) #[] #[]) #[t1]; invoke d.target d.args)) h2 (fun t14 h3 =>
  pAlloc P 94 h3 fun t5 h4 =>
  pStore P 94 t5 t14 h4 fun h5 =>
  pLoad P 94 t5 h5 fun t15 =>
  Runs P ((do let d ← Deferred.ofValue (.func (.func 52) #[] #[]) #[t15]; invoke d.target d.args)) h5 (fun t16 h6 =>
  Join0 (fun J5 =>
    Runs P (invoke (.fn (.method "Kind") #[]) (#[t16] ++ #[])) h6 (fun t18 h7 =>
    Reads P (binS .neq 99 true t18 (.int .u8 22)) h7 fun t19 =>
    boolV t19 fun b6 => bcase b6 (
    Reads P (Instr.makeInterface 9 (str [101, 114, 114, 111, 114, 115, 58, 32, 116, 97, 114, 103, 101, 116, 32, 109, 117, 115, 116, 32, 98, 101, 32, 97, 32, 110, 111, 110, 45, 110, 105, 108, 32, 112, 111, 105, 110, 116, 101, 114])) h7 fun t24 =>
    Runs P (vS (Instr.panic t24)) h7 (fun u7 h8 =>
    J5 h8) E) (
    pLoad P 94 t5 h7 fun t21 =>
    Runs P ((do let d ← Deferred.ofValue (.func (.func 53) #[] #[]) #[t21]; invoke d.target d.args)) h7 (fun t22 h9 =>
    boolV t22 fun b8 => bcase b8 (
      Reads P (Instr.makeInterface 9 (str [101, 114, 114, 111, 114, 115, 58, 32, 116, 97, 114, 103, 101, 116, 32, 109, 117, 115, 116, 32, 98, 101, 32, 97, 32, 110, 111, 110, 45, 110, 105, 108, 32, 112, 111, 105, 110, 116, 101, 114])) h9 fun t24_2 =>
      Runs P (vS (Instr.panic t24_2)) h9 (fun u9 h10 =>
      J5 h10) E) (
      J5 h9)) E)) E)
  (fun h11 =>
  Runs P (invoke (.fn (.method "Elem") #[]) (#[t16] ++ #[])) h11 (fun t26 h12 =>
  Runs P (invoke (.fn (.method "Kind") #[]) (#[t26] ++ #[])) h12 (fun t28 h13 =>
  Reads P (binS .neq 99 true t28 (.int .u8 20)) h13 fun t29 =>
  boolV t29 fun b10 => bcase b10 (
  pLoad P 97 (.pointer (some ⟨10, 0, none⟩)) h13 fun t32 =>
  Runs P (invoke (.fn (.method "Implements") #[]) (#[t26] ++ #[t32])) h13 (fun t33 h14 =>
  Reads P (Op.unary .not t33) h14 fun t34 =>
  boolV t34 fun b11 => bcase b11 (
    Reads P (Instr.makeInterface 9 (str [101, 114, 114, 111, 114, 115, 58, 32, 42, 116, 97, 114, 103, 101, 116, 32, 109, 117, 115, 116, 32, 98, 101, 32, 105, 110, 116, 101, 114, 102, 97, 99, 101, 32, 111, 114, 32, 105, 109, 112, 108, 101, 109, 101, 110, 116, 32, 101, 114, 114, 111, 114])) h14 fun t36 =>
    Runs P (vS (Instr.panic t36)) h14 (fun u12 h15 =>
    pLoad P 94 t5 h15 fun t39 =>
  CallsH P 54 #[t0, t1, t39, t26] h15 (fun t41 h16 =>
  R t41 h16) E) E) (
    pLoad P 94 t5 h14 fun t39_2 =>
  CallsH P 54 #[t0, t1, t39_2, t26] h14 (fun t41_2 h17 =>
  R t41_2 h17) E)) E) (
  pLoad P 94 t5 h13 fun t39_3 =>
  CallsH P 54 #[t0, t1, t39_3, t26] h13 (fun t41_3 h18 =>
  R t41_3 h18) E)) E) E)) E) E))
theorem C30 {E : List PanicEntry → Heap → Prop} {t0 t1 : Value} {h : Heap} {R : Value → Heap → Prop} (hs : S30 Tryz.prog E t0 t1 h R) : CallsH Tryz.prog 30 #[t0, t1] h R E :=
  calls_of_vc H30 Tryz.mixed Tryz.func30 rfl (by kernel_rfl) (by kernel_rfl) (Eq.mp (show S30 Tryz.prog E t0 t1 h R = vcFun Tryz.prog H30 E Tryz.f30.results.toList _ [t0, t1] h R from by kernel_rfl) hs)

def H31 : Hints := { r := fun _ => none, s := fun i => match i with | 5 => some [] | _ => none, l := fun _ => none, d := fun _ => none }
def S31 (P : Program) (E : List PanicEntry → Heap → Prop) (t0 : Value) (h : Heap) (R : Value → Heap → Prop) : Prop :=
  pAlloc P 36 h fun t2 h1 =>
  pAlloc P 36 h1 fun t3 h2 =>
  Join0 (fun J1 =>
    Reads P (nilS t0) h2 fun t5 =>
    Reads P (Instr.fieldAt 57 t5 2) h2 fun t6 =>
    pLoad P 4 t6 h2 fun t7 =>
    boolV t7 fun b2 => bcase b2 (
      CallsH P 55 #[t0] h2 (fun t9 h3 =>
      pStore P 36 t3 t9 h3 fun h4 =>
      J1 h4) E) (
      CallsH P 56 #[t0] h2 (fun t11 h5 =>
      pStore P 36 t3 t11 h5 fun h6 =>
      J1 h6) E))
  (fun h7 =>
  CallsH P 57 #[t0] h7 (fun t13 h8 =>
  Reads P (Op.unary .not t13) h8 fun t14 =>
  boolV t14 fun b3 => bcase b3 (
    Reads P (nilS t0) h8 fun t17 =>
    Reads P (Instr.fieldAt 57 t17 1) h8 fun t18 =>
    pLoad P 3 t18 h8 fun t19 =>
    CallsH P 58 #[t0, (.int .i64 9), t19] h8 (fun t20 h9 =>
    pLoad P 36 t3 h9 fun t21 =>
  pStore P 36 t2 t21 h9 fun h10 =>
  pLoad P 36 t2 h10 fun r4 => R r4 h10) E) (
    pLoad P 36 t3 h8 fun t21_2 =>
  pStore P 36 t2 t21_2 h8 fun h11 =>
  pLoad P 36 t2 h11 fun r5 => R r5 h11)) E)
theorem C31 {E : List PanicEntry → Heap → Prop} {t0 : Value} {h : Heap} {R : Value → Heap → Prop} (hs : S31 Tryz.prog E t0 h R) : CallsH Tryz.prog 31 #[t0] h R E :=
  calls_of_vc H31 Tryz.mixed Tryz.func31 rfl (by kernel_rfl) (by kernel_rfl) (Eq.mp (show S31 Tryz.prog E t0 h R = vcFun Tryz.prog H31 E Tryz.f31.results.toList _ [t0] h R from by kernel_rfl) hs)

def H32 : Hints := { r := fun _ => none, s := fun _ => none, l := fun i => match i with | 4 => some [11] | _ => none, d := fun i => match i with | 6 => some (.cut 2 (.take 0 (.take 1 (.take 2 (.act 3 (.act 4 (.cut 0 (.act 5 (.cut 1 (.take 6 (.cut 0 (.act 7 .done .stop)))) .stop)) .stop) .stop))))) | _ => none }
def S32 (P : Program) (E : List PanicEntry → Heap → Prop) (t0 : Value) (h : Heap) (R : Value → Heap → Prop) : Prop :=
  pNew 36 t0 h fun t1 h1 =>
  pAlloc P 36 h1 fun t2 h2 =>
  Reads P (Instr.fieldAt 36 t1 5) h2 fun t6 =>
  pLoad P 34 t6 h2 fun t7 =>
  Reads P (Instr.fieldAt 36 t1 5) h2 fun t8 =>
  pStore P 34 t8 (.slice none 0 0) h2 fun h3 =>
  Reads P (builtinS .len #[34] 3 #[t7]) h3 fun t10 =>
  Loop1 (.int .i64 0) h3 (fun C1 t11 h4 =>
    Reads P (binS .lss 3 false t11 t10) h4 fun t12 =>
    boolV t12 fun b2 => bcase b2 (
      Reads P (Instr.indexAt 34 t7 t11) h4 fun t13 =>
    pLoad P 36 t13 h4 fun t14 =>
    pAlloc P 36 h4 fun t5 h5 =>
    pStore P 36 t5 t14 h5 fun h6 =>
    Stable h6 fun S3 =>
    ReadsS P (Instr.fieldAt 36 t1 5) S3 fun t15 =>
    pLoadS P 34 t15 S3 fun t16 =>
    pLoadS P 36 t5 S3 fun t17 =>
    (CallsH P 32 #[t17] h6 (fun t18 h7 =>
    S3 h7 ∧ ((Runs P (vS (Instr.buildSlice 34 1 #[(0, t18)])) h7 (fun t19 h8 =>
    S3 h8 ∧ ((Runs P (builtin .append #[34, 34] 34 #[false, false] #[t16, t19]) h8 (fun t20 h9 =>
    True ∧ (Reads P (Instr.fieldAt 36 t1 5) h9 fun t21 =>
    (pStore P 34 t21 t20 h9 fun h10 =>
    True ∧ (Reads P (binS .add 3 true t11 (.int .i64 1)) h10 fun t22 =>
    C1 t22 h10)) ∧ True)) E) ∧ True)) E) ∧ True)) E) ∧ True) (
      pLoad P 36 t1 h4 fun t23 =>
  pStore P 36 t2 t23 h4 fun h11 =>
  pLoad P 36 t2 h11 fun r4 => R r4 h11))
theorem C32 {E : List PanicEntry → Heap → Prop} {t0 : Value} {h : Heap} {R : Value → Heap → Prop} (hs : S32 Tryz.prog E t0 h R) : CallsH Tryz.prog 32 #[t0] h R E :=
  calls_of_vc H32 Tryz.mixed Tryz.func32 rfl (by kernel_rfl) (by kernel_rfl) (Eq.mp (show S32 Tryz.prog E t0 h R = vcFun Tryz.prog H32 E Tryz.f32.results.toList _ [t0] h R from by kernel_rfl) hs)

def H33 : Hints := { r := fun _ => none, s := fun _ => none, l := fun _ => none, d := fun _ => none }
def S33 (P : Program) (E : List PanicEntry → Heap → Prop) (t0 t1 : Value) (h : Heap) (R : Value → Heap → Prop) : Prop :=
  pNew 33 t0 h fun t2 h1 =>
  pAlloc P 33 h1 fun t4 h2 =>
  Reads P (binS .quo 5 true t1 (.int .u8 64)) h2 fun t6 =>
  Reads P (Instr.indexAt 33 t2 t6) h2 fun t7 =>
  pLoad P 31 t7 h2 fun t8 =>
  Reads P (binS .rem 5 true t1 (.int .u8 64)) h2 fun t10 =>
  Reads P (binS .shl 31 true (.int .u64 1) t10) h2 fun t11 =>
  Reads P (binS .or 31 false t8 t11) h2 fun t12 =>
  Reads P (Instr.indexAt 33 t2 t6) h2 fun t13 =>
  pStore P 31 t13 t12 h2 fun h3 =>
  pLoad P 33 t2 h3 fun t14 =>
  pStore P 33 t4 t14 h3 fun h4 =>
  pLoad P 33 t4 h4 fun r1 => R r1 h4
theorem C33 {E : List PanicEntry → Heap → Prop} {t0 t1 : Value} {h : Heap} {R : Value → Heap → Prop} (hs : S33 Tryz.prog E t0 t1 h R) : CallsH Tryz.prog 33 #[t0, t1] h R E :=
  calls_of_vc H33 Tryz.mixed Tryz.func33 rfl (by kernel_rfl) (by kernel_rfl) (Eq.mp (show S33 Tryz.prog E t0 t1 h R = vcFun Tryz.prog H33 E Tryz.f33.results.toList _ [t0, t1] h R from by kernel_rfl) hs)

def H43 : Hints := { r := fun _ => none, s := fun _ => none, l := fun _ => none, d := fun _ => none }
def S43 (P : Program) (E : List PanicEntry → Heap → Prop) (t0 t1 : Value) (h : Heap) (R : Value → Heap → Prop) : Prop :=
  CallsH P 27 #[t1] h (fun t7 h1 =>
  Reads P (binS .neq 26 true t0 .nilIface) h1 fun t9 =>
  boolV t9 fun b1 => bcase b1 (
  Reads P (binS .neq 26 true t7 .nilIface) h1 fun t12 =>
  boolV t12 fun b2 => bcase b2 (
  CallsH P 65 #[t0, t7] h1 (fun t17 h2 =>
  R t17 h2) E) (
  R (.bool false) h1)) (
  R (.bool false) h1)) E
theorem C43 {E : List PanicEntry → Heap → Prop} {t0 t1 : Value} {h : Heap} {R : Value → Heap → Prop} (hs : S43 Tryz.prog E t0 t1 h R) : CallsH Tryz.prog 43 #[t0, t1] h R E :=
  calls_of_vc H43 Tryz.mixed Tryz.func43 rfl (by kernel_rfl) (by kernel_rfl) (Eq.mp (show S43 Tryz.prog E t0 t1 h R = vcFun Tryz.prog H43 E Tryz.f43.results.toList _ [t0, t1] h R from by kernel_rfl) hs)

def H44 : Hints := { r := fun _ => none, s := fun i => match i with | 18 => some [4] | 21 => some [] | _ => none, l := fun i => match i with | 22 => some [66] | _ => none, d := fun i => match i with | 3 => some (.cut 2 (.take 0 (.take 1 (.act 2 (.cut 1 (.take 3 .done)) .stop)))) | _ => none }
def S44 (P : Program) (E : List PanicEntry → Heap → Prop) (t0 t1 : Value) (h : Heap) (R : Value → Heap → Prop) : Prop :=
  pNew 36 t1 h fun t3 h1 =>
  Join0 (fun J1 =>
    Reads P (Instr.fieldAt 36 t3 0) h1 fun t7 =>
    pLoad P 3 t7 h1 fun t8 =>
    Reads P (binS .eql 3 true t8 (.int .i64 1)) h1 fun t10 =>
    boolV t10 fun b2 => bcase b2 (
      Stable h1 fun S3 =>
      ReadsS P (Instr.fieldAt 36 t3 1) S3 fun t11 =>
      pLoadS P 33 t11 S3 fun t12 =>
      (CallsH P 66 #[] h1 (fun t13 h2 =>
      S3 h2 ∧ (Reads P (binS .eql 33 false t12 t13) h2 fun t14 =>
      boolV t14 fun b4 => bcase b4 (
        CallsH P 67 #[t0, (str [46])] h2 (fun t16 h3 =>
        R (.tuple #[]) h3) E) (
        Reads P (Instr.fieldAt 36 t3 1) h2 fun t18 =>
        pLoad P 33 t18 h2 fun t19 =>
        CallsH P 68 #[t19] h2 (fun t20 h4 =>
        CallsH P 67 #[t0, t20] h4 (fun t21 h5 =>
        R (.tuple #[]) h5) E) E))) E) ∧ True) (
      Reads P (binS .eql 3 true t8 (.int .i64 2)) h1 fun t23 =>
      boolV t23 fun b5 => bcase b5 (
        CallsH P 67 #[t0, (str [94])] h1 (fun t25 h6 =>
        R (.tuple #[]) h6) E) (
        Reads P (binS .eql 3 true t8 (.int .i64 3)) h1 fun t27 =>
        boolV t27 fun b6 => bcase b6 (
          CallsH P 67 #[t0, (str [36])] h1 (fun t29 h7 =>
          R (.tuple #[]) h7) E) (
          Reads P (binS .eql 3 true t8 (.int .i64 4)) h1 fun t31 =>
          boolV t31 fun b7 => bcase b7 (
            CallsH P 67 #[t0, (str [40, 99, 97, 116])] h1 (fun t33 h8 =>
            J1 h8) E) (
            Reads P (binS .eql 3 true t8 (.int .i64 5)) h1 fun t35 =>
            boolV t35 fun b8 => bcase b8 (
              CallsH P 67 #[t0, (str [40, 97, 108, 116])] h1 (fun t37 h9 =>
              J1 h9) E) (
              Reads P (binS .eql 3 true t8 (.int .i64 6)) h1 fun t39 =>
              boolV t39 fun b9 => bcase b9 (
                Join1 (fun J10 =>
                  Reads P (Instr.fieldAt 36 t3 3) h1 fun t40 =>
                  pLoad P 3 t40 h1 fun t41 =>
                  Reads P (binS .geq 3 true t41 (.int .i64 0)) h1 fun t42 =>
                  boolV t42 fun b11 => bcase b11 (
                    Reads P (Instr.fieldAt 36 t3 3) h1 fun t43 =>
                    pLoad P 3 t43 h1 fun t44 =>
                    CallsH P 69 #[t44] h1 (fun t45 h10 =>
                    J10 t45 h10) E) (
                    J10 (str [45]) h1))
                (fun t4 h11 =>
                Reads P (Instr.fieldAt 36 t3 2) h11 fun t47 =>
                pLoad P 3 t47 h11 fun t48 =>
                CallsH P 69 #[t48] h11 (fun t49 h12 =>
                Reads P (binS .add 9 true (str [40, 114, 101, 112, 32]) t49) h12 fun t50 =>
                Reads P (binS .add 9 true t50 (str [32])) h12 fun t51 =>
                Reads P (binS .add 9 false t51 t4) h12 fun t53 =>
                CallsH P 67 #[t0, t53] h12 (fun t54 h13 =>
                J1 h13) E) E)) (
                Reads P (binS .eql 3 true t8 (.int .i64 7)) h1 fun t56 =>
                boolV t56 fun b12 => bcase b12 (
                  Reads P (Instr.fieldAt 36 t3 4) h1 fun t58 =>
                  pLoad P 3 t58 h1 fun t59 =>
                  CallsH P 69 #[t59] h1 (fun t60 h14 =>
                  Reads P (binS .add 9 true (str [40, 103, 114, 111, 117, 112, 32]) t60) h14 fun t61 =>
                  CallsH P 67 #[t0, t61] h14 (fun t62 h15 =>
                  J1 h15) E) E) (
                  J1 h1))))))))
  (fun h16 =>
  Reads P (Instr.fieldAt 36 t3 5) h16 fun t63 =>
  pLoad P 34 t63 h16 fun t64 =>
  Reads P (builtinS .len #[34] 3 #[t64]) h16 fun t65 =>
  Loop1 (.int .i64 0) h16 (fun C13 t66 h17 =>
    Reads P (binS .lss 3 false t66 t65) h17 fun t67 =>
    boolV t67 fun b14 => bcase b14 (
      Reads P (Instr.indexAt 34 t64 t66) h17 fun t68 =>
    pLoad P 36 t68 h17 fun t69 =>
    pAlloc P 36 h17 fun t6 h18 =>
    pStore P 36 t6 t69 h18 fun h19 =>
    CallsH P 70 #[t0, (.int .u8 32)] h19 (fun t71 h20 =>
    pLoad P 36 t6 h20 fun t73 =>
    CallsH P 44 #[t0, t73] h20 (fun t74 h21 =>
    Reads P (binS .add 3 true t66 (.int .i64 1)) h21 fun t75 =>
    C13 t75 h21) E) E) (
      CallsH P 70 #[t0, (.int .u8 41)] h17 (fun t77 h22 =>
  R (.tuple #[]) h22) E)))
theorem C44 {E : List PanicEntry → Heap → Prop} {t0 t1 : Value} {h : Heap} {R : Value → Heap → Prop} (hs : S44 Tryz.prog E t0 t1 h R) : CallsH Tryz.prog 44 #[t0, t1] h R E :=
  calls_of_vc H44 Tryz.mixed Tryz.func44 rfl (by kernel_rfl) (by kernel_rfl) (Eq.mp (show S44 Tryz.prog E t0 t1 h R = vcFun Tryz.prog H44 E Tryz.f44.results.toList _ [t0, t1] h R from by kernel_rfl) hs)

def H45 : Hints := { r := fun _ => none, s := fun _ => none, l := fun _ => none, d := fun i => match i with | 1 => some (.cut 1 (.take 0 (.take 1 (.take 2 (.take 3 (.take 4 (.take 5 (.take 6 (.take 7 (.take 8 (.take 9 (.cut 0 (.act 10 (.cut 1 (.take 11 .done)) .stop))))))))))))) | _ => none }
def S45 (P : Program) (E : List PanicEntry → Heap → Prop) (t0 : Value) (h : Heap) (R : Value → Heap → Prop) : Prop :=
  Reads P (nilS t0) h fun t4 =>
  Reads P (Instr.fieldAt 87 t4 1) h fun t5 =>
  pLoad P 29 t5 h fun t6 =>
  Reads P (builtinS .unsafeSliceData #[29] 113 #[t6]) h fun t7 =>
  Reads P (nilS t0) h fun t9 =>
  Reads P (Instr.fieldAt 87 t9 1) h fun t10 =>
  pLoad P 29 t10 h fun t11 =>
  Reads P (builtinS .len #[29] 3 #[t11]) h fun t12 =>
  (Runs P (builtin .unsafeString #[113, 3] 9 #[false, false] #[t7, t12]) h (fun t13 h1 =>
  True ∧ (R t13 h1)) E) ∧ True
theorem C45 {E : List PanicEntry → Heap → Prop} {t0 : Value} {h : Heap} {R : Value → Heap → Prop} (hs : S45 Tryz.prog E t0 h R) : CallsH Tryz.prog 45 #[t0] h R E :=
  calls_of_vc H45 Tryz.mixed Tryz.func45 rfl (by kernel_rfl) (by kernel_rfl) (Eq.mp (show S45 Tryz.prog E t0 h R = vcFun Tryz.prog H45 E Tryz.f45.results.toList _ [t0] h R from by kernel_rfl) hs)

def H49 : Hints := { r := fun _ => none, s := fun _ => none, l := fun _ => none, d := fun _ => none }
def S49 (P : Program) (E : List PanicEntry → Heap → Prop) (t0 t1 : Value) (h : Heap) (R : Value → Heap → Prop) : Prop :=
  Runs P ((do let d ← Deferred.ofValue (.func (.func 74) #[] #[]) #[t0, t1]; invoke d.target d.args)) h (fun t7 h1 =>
  R t7 h1) E
theorem C49 {E : List PanicEntry → Heap → Prop} {t0 t1 : Value} {h : Heap} {R : Value → Heap → Prop} (hs : S49 Tryz.prog E t0 t1 h R) : CallsH Tryz.prog 49 #[t0, t1] h R E :=
  calls_of_vc H49 Tryz.mixed Tryz.func49 rfl (by kernel_rfl) (by kernel_rfl) (Eq.mp (show S49 Tryz.prog E t0 t1 h R = vcFun Tryz.prog H49 E Tryz.f49.results.toList _ [t0, t1] h R from by kernel_rfl) hs)

def H50 : Hints := { r := fun _ => none, s := fun _ => none, l := fun _ => none, d := fun _ => none }
def S50 (P : Program) (E : List PanicEntry → Heap → Prop) (t0 : Value) (h : Heap) (R : Value → Heap → Prop) : Prop :=
  Reads P (binS .eql 3 true t0 (.int .i64 11)) h fun t5 =>
  boolV t5 fun b1 => bcase b1 (
    pLoad P 26 (.pointer (some ⟨11, 0, none⟩)) h fun t6 =>
    R t6 h) (
    Reads P (binS .eql 3 true t0 (.int .i64 12)) h fun t8 =>
    boolV t8 fun b2 => bcase b2 (
      pLoad P 26 (.pointer (some ⟨12, 0, none⟩)) h fun t9 =>
      R t9 h) (
      Reads P (binS .eql 3 true t0 (.int .i64 13)) h fun t11 =>
      boolV t11 fun b3 => bcase b3 (
        pLoad P 26 (.pointer (some ⟨13, 0, none⟩)) h fun t12 =>
        R t12 h) (
        Reads P (binS .eql 3 true t0 (.int .i64 14)) h fun t14 =>
        boolV t14 fun b4 => bcase b4 (
          pLoad P 26 (.pointer (some ⟨14, 0, none⟩)) h fun t15 =>
          R t15 h) (
          Reads P (binS .eql 3 true t0 (.int .i64 15)) h fun t17 =>
          boolV t17 fun b5 => bcase b5 (
            pLoad P 26 (.pointer (some ⟨15, 0, none⟩)) h fun t18 =>
            R t18 h) (
            Reads P (binS .eql 3 true t0 (.int .i64 16)) h fun t20 =>
            boolV t20 fun b6 => bcase b6 (
              pLoad P 26 (.pointer (some ⟨16, 0, none⟩)) h fun t21 =>
              R t21 h) (
              Reads P (binS .eql 3 true t0 (.int .i64 17)) h fun t23 =>
              boolV t23 fun b7 => bcase b7 (
                pLoad P 26 (.pointer (some ⟨17, 0, none⟩)) h fun t24 =>
                R t24 h) (
                Reads P (binS .eql 3 true t0 (.int .i64 18)) h fun t26 =>
                boolV t26 fun b8 => bcase b8 (
                  pLoad P 26 (.pointer (some ⟨18, 0, none⟩)) h fun t27 =>
                  R t27 h) (
                  Reads P (binS .eql 3 true t0 (.int .i64 19)) h fun t29 =>
                  boolV t29 fun b9 => bcase b9 (
                    pLoad P 26 (.pointer (some ⟨19, 0, none⟩)) h fun t30 =>
                    R t30 h) (
                    Reads P (binS .eql 3 true t0 (.int .i64 20)) h fun t32 =>
                    boolV t32 fun b10 => bcase b10 (
                      pLoad P 26 (.pointer (some ⟨20, 0, none⟩)) h fun t33 =>
                      R t33 h) (
                      Reads P (binS .eql 3 true t0 (.int .i64 21)) h fun t35 =>
                      boolV t35 fun b11 => bcase b11 (
                        pLoad P 26 (.pointer (some ⟨21, 0, none⟩)) h fun t36 =>
                        R t36 h) (
                        R .nilIface h)))))))))))
theorem C50 {E : List PanicEntry → Heap → Prop} {t0 : Value} {h : Heap} {R : Value → Heap → Prop} (hs : S50 Tryz.prog E t0 h R) : CallsH Tryz.prog 50 #[t0] h R E :=
  calls_of_vc H50 Tryz.mixed Tryz.func50 rfl (by kernel_rfl) (by kernel_rfl) (Eq.mp (show S50 Tryz.prog E t0 h R = vcFun Tryz.prog H50 E Tryz.f50.results.toList _ [t0] h R from by kernel_rfl) hs)

def H54 : Hints := { r := fun _ => none, s := fun i => match i with | 7 => some [] | _ => none, l := fun i => match i with | 1 => some [0] | 18 => some [50] | _ => none, d := fun _ => none }
def S54 (P : Program) (E : List PanicEntry → Heap → Prop) (t0 t1 t2 t3 : Value) (h : Heap) (R : Value → Heap → Prop) : Prop :=
  pNew 94 t2 h fun t6 h1 =>
  Loop1 t0 h1 (fun C1 t0_2 h2 =>
    Runs P ((do let d ← Deferred.ofValue (.func (.func 75) #[] #[]) #[t0_2]; invoke d.target d.args)) h2 (fun t17 h3 =>
    Runs P (invoke (.fn (.method "AssignableTo") #[]) (#[t17] ++ #[t3])) h3 (fun t19 h4 =>
    boolV t19 fun b2 => bcase b2 (
      pLoad P 94 t6 h4 fun t20 =>
      Runs P ((do let d ← Deferred.ofValue (.func (.func 76) #[] #[]) #[t20]; invoke d.target d.args)) h4 (fun t21 h5 =>
      Runs P ((do let d ← Deferred.ofValue (.func (.func 51) #[] #[]) #[t0_2]; invoke d.target d.args)) h5 (fun t23 h6 =>
      Runs P ((do let d ← Deferred.ofValue (.func (.func 77) #[] #[]) #[t21, t23]; invoke d.target d.args)) h6 (fun t24 h7 =>
      R (.bool true) h7) E) E) E) (
      Join0 (fun J3 =>
      Reads P (Instr.typeAssert t0_2 26 122 true) h4 fun t27 =>
      Reads P (Instr.extract t27 0) h4 fun t28 =>
      Reads P (Instr.extract t27 1) h4 fun t29 =>
      boolV t29 fun b4 => bcase b4 (
      Runs P (invoke (.fn (.method "As") #[]) (#[t28] ++ #[t1])) h4 (fun t34 h8 =>
      boolV t34 fun b5 => bcase b5 (
        R (.bool true) h8) (
        J3 h8)) E) (
      J3 h4))
    (fun h9 =>
    Reads P (Instr.typeAssert t0_2 26 125 true) h9 fun t37 =>
    Reads P (Instr.extract t37 1) h9 fun t38 =>
    Reads P (Instr.extract t37 0) h9 fun t39 =>
    boolV t38 fun b6 => bcase b6 (
      Runs P (invoke (.fn (.method "Unwrap") #[]) (#[t39] ++ #[])) h9 (fun t41 h10 =>
      Reads P (binS .eql 26 true t41 .nilIface) h10 fun t43 =>
      boolV t43 fun b7 => bcase b7 (
        R (.bool false) h10) (
        C1 t41 h10)) E) (
      Reads P (Instr.typeAssert t0_2 26 127 true) h9 fun t44 =>
      Reads P (Instr.extract t44 1) h9 fun t45 =>
      Reads P (Instr.extract t44 0) h9 fun t46 =>
      boolV t45 fun b8 => bcase b8 (
        Runs P (invoke (.fn (.method "Unwrap") #[]) (#[t46] ++ #[])) h9 (fun t48 h11 =>
        Reads P (builtinS .len #[128] 3 #[t48]) h11 fun t49 =>
        Loop1 (.int .i64 0) h11 (fun C9 t50 h12 =>
          Reads P (binS .lss 3 false t50 t49) h12 fun t51 =>
          boolV t51 fun b10 => bcase b10 (
            Reads P (Instr.indexAt 128 t48 t50) h12 fun t52 =>
          pLoad P 26 t52 h12 fun t53 =>
          Reads P (binS .eql 26 true t53 .nilIface) h12 fun t55 =>
          boolV t55 fun b11 => bcase b11 (
            Reads P (binS .add 3 true t50 (.int .i64 1)) h12 fun t61 =>
          C9 t61 h12) (
            pLoad P 94 t6 h12 fun t58 =>
          CallsH P 54 #[t53, t1, t58, t3] h12 (fun t60 h13 =>
          boolV t60 fun b12 => bcase b12 (
            R (.bool true) h13) (
            Reads P (binS .add 3 true t50 (.int .i64 1)) h13 fun t61_2 =>
          C9 t61_2 h13)) E)) (
            R (.bool false) h12))) E) (
        R (.bool false) h9))))) E) E)
theorem C54 {E : List PanicEntry → Heap → Prop} {t0 t1 t2 t3 : Value} {h : Heap} {R : Value → Heap → Prop} (hs : S54 Tryz.prog E t0 t1 t2 t3 h R) : CallsH Tryz.prog 54 #[t0, t1, t2, t3] h R E :=
  calls_of_vc H54 Tryz.mixed Tryz.func54 rfl (by kernel_rfl) (by kernel_rfl) (Eq.mp (show S54 Tryz.prog E t0 t1 t2 t3 h R = vcFun Tryz.prog H54 E Tryz.f54.results.toList _ [t0, t1, t2, t3] h R from by kernel_rfl) hs)

def H55 : Hints := { r := fun _ => none, s := fun _ => none, l := fun i => match i with | 2 => some [3] | _ => none, d := fun _ => none }
def S55 (P : Program) (E : List PanicEntry → Heap → Prop) (t0 : Value) (h : Heap) (R : Value → Heap → Prop) : Prop :=
  pAlloc P 36 h fun t2 h1 =>
  CallsH P 78 #[t0] h1 (fun t5 h2 =>
  Runs P (vS (Instr.buildSlice 34 1 #[(0, t5)])) h2 (fun t6 h3 =>
  Loop1 t6 h3 (fun C1 t3 h4 =>
    CallsH P 79 #[t0, (str [124])] h4 (fun t8 h5 =>
    boolV t8 fun b2 => bcase b2 (
      CallsH P 78 #[t0] h5 (fun t11 h6 =>
    Runs P (vS (Instr.buildSlice 34 1 #[(0, t11)])) h6 (fun t12 h7 =>
    Runs P (builtin .append #[34, 34] 34 #[false, false] #[t3, t12]) h7 (fun t13 h8 =>
    C1 t13 h8) E) E) E) (
      CallsH P 80 #[(.int .i64 5), t3] h5 (fun t15 h9 =>
  pStore P 36 t2 t15 h9 fun h10 =>
  pLoad P 36 t2 h10 fun r3 => R r3 h10) E)) E)) E) E
theorem C55 {E : List PanicEntry → Heap → Prop} {t0 : Value} {h : Heap} {R : Value → Heap → Prop} (hs : S55 Tryz.prog E t0 h R) : CallsH Tryz.prog 55 #[t0] h R E :=
  calls_of_vc H55 Tryz.mixed Tryz.func55 rfl (by kernel_rfl) (by kernel_rfl) (Eq.mp (show S55 Tryz.prog E t0 h R = vcFun Tryz.prog H55 E Tryz.f55.results.toList _ [t0] h R from by kernel_rfl) hs)

def H56 : Hints := { r := fun _ => none, s := fun i => match i with | 4 => some [3] | 5 => some [] | 6 => some [59] | 15 => some [3] | _ => none, l := fun i => match i with | 4 => some [3] | 9 => some [] | _ => none, d := fun i => match i with | 5 => some (.cut 1 (.take 0 (.cut 0 (.act 1 (.cut 1 (.take 2 (.take 3 (.take 4 (.take 5 (.take 6 (.take 7 (.take 8 (.take 9 (.take 10 (.take 11 (.take 12 (.take 13 (.take 14 (.take 15 (.take 16 (.take 17 (.take 18 (.take 19 (.take 20 (.take 21 (.take 22 (.take 23 (.take 24 (.take 25 (.take 26 (.take 27 (.take 28 (.take 29 (.take 30 (.take 31 (.take 32 (.take 33 (.take 34 (.take 35 (.take 36 (.take 37 (.take 38 (.take 39 .done))))))))))))))))))))))))))))))))))))))) .stop)))) | _ => none }
def S56 (P : Program) (E : List PanicEntry → Heap → Prop) (t0 : Value) (h : Heap) (R : Value → Heap → Prop) : Prop :=
  pAlloc P 36 h fun t2 h1 =>
  Join1 (fun J1 =>
    CallsH P 79 #[t0, (str [94])] h1 (fun t7 h2 =>
    boolV t7 fun b2 => bcase b2 (
      Reads P (Instr.build 36 #[(0, (.int .i64 2))]) h2 fun t9 =>
      Runs P (vS (Instr.buildSlice 34 1 #[(0, t9)])) h2 (fun t10 h3 =>
      Runs P (builtin .append #[34, 34] 34 #[false, false] #[(.slice none 0 0), t10]) h3 (fun t11 h4 =>
      J1 t11 h4) E) E) (
      J1 (.slice none 0 0) h2)) E)
  (fun t3 h5 =>
  Join1 (fun J3 =>
    Loop1 t3 h5 (fun C4 t3_2 h6 =>
      Join0 (fun J5 =>
        CallsH P 57 #[t0] h6 (fun t13 h7 =>
        Reads P (Op.unary .not t13) h7 fun t14 =>
        boolV t14 fun b6 => bcase b6 (
        CallsH P 81 #[t0, (str [92, 41])] h7 (fun t17 h8 =>
        Reads P (Op.unary .not t17) h8 fun t18 =>
        boolV t18 fun b7 => bcase b7 (
          J5 h8) (
          J3 t3_2 h8)) E) (
        J3 t3_2 h7)) E)
      (fun h9 =>
      Join1 (fun J8 =>
        (CallsH P 81 #[t0, (str [36])] h9 (fun t21 h10 =>
        True ∧ (boolV t21 fun b9 => bcase b9 (
        Reads P (nilS t0) h10 fun t24 =>
        Reads P (Instr.fieldAt 57 t24 1) h10 fun t25 =>
        pLoad P 3 t25 h10 fun t26 =>
        Reads P (binS .add 3 true t26 (.int .i64 1)) h10 fun t27 =>
        Reads P (nilS t0) h10 fun t29 =>
        Reads P (Instr.fieldAt 57 t29 0) h10 fun t30 =>
        pLoad P 29 t30 h10 fun t31 =>
        Reads P (builtinS .len #[29] 3 #[t31]) h10 fun t32 =>
        Reads P (binS .eql 3 false t27 t32) h10 fun t33 =>
        boolV t33 fun b10 => bcase b10 (
        J8 (.bool true) h10) (
        Reads P (nilS t0) h10 fun t36 =>
        Reads P (Instr.fieldAt 57 t36 0) h10 fun t37 =>
        pLoad P 29 t37 h10 fun t38 =>
        Reads P (nilS t0) h10 fun t40 =>
        Reads P (Instr.fieldAt 57 t40 1) h10 fun t41 =>
        pLoad P 3 t41 h10 fun t42 =>
        Reads P (binS .add 3 true t42 (.int .i64 1)) h10 fun t43 =>
        Reads P (nilS t0) h10 fun t45 =>
        Reads P (Instr.fieldAt 57 t45 1) h10 fun t46 =>
        pLoad P 3 t46 h10 fun t47 =>
        Reads P (binS .add 3 true t47 (.int .i64 3)) h10 fun t48 =>
        Reads P (nilS t0) h10 fun t50 =>
        Reads P (Instr.fieldAt 57 t50 0) h10 fun t51 =>
        pLoad P 29 t51 h10 fun t52 =>
        Reads P (builtinS .len #[29] 3 #[t52]) h10 fun t53 =>
        Reads P (builtinS .min #[3, 3] 3 #[t48, t53]) h10 fun t54 =>
        Reads P (Instr.sliceAt 29 t38 (some t43) (some t54) none) h10 fun t55 =>
        Reads P (convert 29 9 t55) h10 fun t56 =>
        Reads P (binS .eql 9 true t56 (str [92, 41])) h10 fun t57 =>
        J8 t57 h10)) (
        (undef = undef ∧ ((undef = undef ∧ ((undef = undef ∧ ((undef = undef ∧ ((undef = undef ∧ ((undef = undef ∧ ((undef = undef ∧ ((undef = undef ∧ ((undef = undef ∧ ((undef = undef ∧ ((undef = undef ∧ ((undef = undef ∧ ((undef = undef ∧ ((undef = undef ∧ ((undef = undef ∧ ((undef = undef ∧ ((undef = undef ∧ ((undef = undef ∧ ((undef = undef ∧ ((undef = undef ∧ ((undef = undef ∧ ((undef = undef ∧ ((undef = undef ∧ (J8 (.bool false) h10))))))))))))))))))))))))))))))))))))))))))))))))) E) ∧ True)
      (fun t59 h11 =>
      boolV t59 fun b11 => bcase b11 (
        Reads P (nilS t0) h11 fun t61 =>
        Reads P (Instr.fieldAt 57 t61 1) h11 fun t62 =>
        pLoad P 3 t62 h11 fun t63 =>
        Reads P (binS .add 3 true t63 (.int .i64 1)) h11 fun t64 =>
        Reads P (nilS t0) h11 fun t65 =>
        Reads P (Instr.fieldAt 57 t65 1) h11 fun t66 =>
        pStore P 3 t66 t64 h11 fun h12 =>
        Reads P (Instr.build 36 #[(0, (.int .i64 3))]) h12 fun t68 =>
        Runs P (vS (Instr.buildSlice 34 1 #[(0, t68)])) h12 (fun t69 h13 =>
        Runs P (builtin .append #[34, 34] 34 #[false, false] #[t3_2, t69]) h13 (fun t70 h14 =>
        J3 t70 h14) E) E) (
        CallsH P 82 #[t0] h11 (fun t72 h15 =>
      pAlloc P 36 h15 fun t4 h16 =>
      pStore P 36 t4 t72 h16 fun h17 =>
      Loop0 h17 (fun C12 h18 =>
        Reads P (nilS t0) h18 fun t74 =>
        Reads P (Instr.fieldAt 57 t74 1) h18 fun t75 =>
        pLoad P 3 t75 h18 fun t76 =>
        CallsH P 79 #[t0, (str [42])] h18 (fun t78 h19 =>
        boolV t78 fun b13 => bcase b13 (
          pLoad P 36 t4 h19 fun t79 =>
          CallsH P 83 #[t79, (.int .i64 0), (.int .i64 (-1))] h19 (fun t80 h20 =>
          pStore P 36 t4 t80 h20 fun h21 =>
          C12 h21) E) (
          CallsH P 79 #[t0, (str [92, 123])] h19 (fun t82 h22 =>
          boolV t82 fun b14 => bcase b14 (
            pLoad P 36 t4 h22 fun t84 =>
            CallsH P 84 #[t0, t84, t76, (str [92, 125])] h22 (fun t86 h23 =>
            pStore P 36 t4 t86 h23 fun h24 =>
            C12 h24) E) (
            pLoad P 36 t4 h22 fun t88 =>
      Runs P (vS (Instr.buildSlice 34 1 #[(0, t88)])) h22 (fun t89 h25 =>
      Runs P (builtin .append #[34, 34] 34 #[false, false] #[t3_2, t89]) h25 (fun t90 h26 =>
      C4 t90 h26) E) E)) E)) E)) E)))))
  (fun t3_3 h27 =>
  Reads P (builtinS .len #[34] 3 #[t3_3]) h27 fun t92 =>
  Reads P (binS .eql 3 true t92 (.int .i64 0)) h27 fun t93 =>
  boolV t93 fun b15 => bcase b15 (
    Reads P (nilS t0) h27 fun t96 =>
    Reads P (Instr.fieldAt 57 t96 1) h27 fun t97 =>
    pLoad P 3 t97 h27 fun t98 =>
    CallsH P 58 #[t0, (.int .i64 3), t98] h27 (fun t99 h28 =>
    CallsH P 80 #[(.int .i64 4), t3_3] h28 (fun t101 h29 =>
  pStore P 36 t2 t101 h29 fun h30 =>
  pLoad P 36 t2 h30 fun r16 => R r16 h30) E) E) (
    CallsH P 80 #[(.int .i64 4), t3_3] h27 (fun t101_2 h31 =>
  pStore P 36 t2 t101_2 h31 fun h32 =>
  pLoad P 36 t2 h32 fun r17 => R r17 h32) E)))
theorem C56 {E : List PanicEntry → Heap → Prop} {t0 : Value} {h : Heap} {R : Value → Heap → Prop} (hs : S56 Tryz.prog E t0 h R) : CallsH Tryz.prog 56 #[t0] h R E :=
  calls_of_vc H56 Tryz.mixed Tryz.func56 rfl (by kernel_rfl) (by kernel_rfl) (Eq.mp (show S56 Tryz.prog E t0 h R = vcFun Tryz.prog H56 E Tryz.f56.results.toList _ [t0] h R from by kernel_rfl) hs)

def H57 : Hints := { r := fun _ => none, s := fun _ => none, l := fun _ => none, d := fun i => match i with | 1 => some (.cut 1 (.take 0 (.take 1 (.take 2 (.take 3 (.take 4 (.take 5 (.take 6 (.take 7 (.take 8 (.take 9 (.take 10 .done)))))))))))) | _ => none }
def S57 (P : Program) (E : List PanicEntry → Heap → Prop) (t0 : Value) (h : Heap) (R : Value → Heap → Prop) : Prop :=
  Reads P (nilS t0) h fun t4 =>
  Reads P (Instr.fieldAt 57 t4 1) h fun t5 =>
  pLoad P 3 t5 h fun t6 =>
  Reads P (nilS t0) h fun t8 =>
  Reads P (Instr.fieldAt 57 t8 0) h fun t9 =>
  pLoad P 29 t9 h fun t10 =>
  Reads P (builtinS .len #[29] 3 #[t10]) h fun t11 =>
  Reads P (binS .geq 3 false t6 t11) h fun t12 =>
  R t12 h
theorem C57 {E : List PanicEntry → Heap → Prop} {t0 : Value} {h : Heap} {R : Value → Heap → Prop} (hs : S57 Tryz.prog E t0 h R) : CallsH Tryz.prog 57 #[t0] h R E :=
  calls_of_vc H57 Tryz.mixed Tryz.func57 rfl (by kernel_rfl) (by kernel_rfl) (Eq.mp (show S57 Tryz.prog E t0 h R = vcFun Tryz.prog H57 E Tryz.f57.results.toList _ [t0] h R from by kernel_rfl) hs)

def H58 : Hints := { r := fun _ => none, s := fun _ => none, l := fun _ => none, d := fun _ => none }
def S58 (P : Program) (E : List PanicEntry → Heap → Prop) (t0 t1 t2 : Value) (h : Heap) (R : Value → Heap → Prop) : Prop :=
  CallsH P 27 #[t1] h (fun t7 h1 =>
  CallsH P 26 #[t7, t2] h1 (fun t9 h2 =>
  CallsH P 28 #[t0] h2 (fun t11 h3 =>
  CallsH P 25 #[t9, t11] h3 (fun t12 h4 =>
  Reads P (Instr.build 62 #[(0, t12)]) h4 fun t13 =>
  Reads P (Instr.makeInterface 62 t13) h4 fun t14 =>
  Runs P (vS (Instr.panic t14)) h4 (fun u1 h5 =>
  R (.tuple #[]) h5) E) E) E) E) E
theorem C58 {E : List PanicEntry → Heap → Prop} {t0 t1 t2 : Value} {h : Heap} {R : Value → Heap → Prop} (hs : S58 Tryz.prog E t0 t1 t2 h R) : CallsH Tryz.prog 58 #[t0, t1, t2] h R E :=
  calls_of_vc H58 Tryz.mixed Tryz.func58 rfl (by kernel_rfl) (by kernel_rfl) (Eq.mp (show S58 Tryz.prog E t0 t1 t2 h R = vcFun Tryz.prog H58 E Tryz.f58.results.toList _ [t0, t1, t2] h R from by kernel_rfl) hs)

def H65 : Hints := { r := fun _ => none, s := fun i => match i with | 3 => some [] | _ => none, l := fun _ => none, d := fun _ => none }
def S65 (P : Program) (E : List PanicEntry → Heap → Prop) (t0 t1 : Value) (h : Heap) (R : Value → Heap → Prop) : Prop :=
  Join0 (fun J1 =>
    Reads P (binS .eql 26 true t0 .nilIface) h fun t7 =>
    boolV t7 fun b2 => bcase b2 (
    Reads P (binS .eql 26 false t0 t1) h fun t14 =>
    R t14 h) (
    Reads P (binS .eql 26 true t1 .nilIface) h fun t10 =>
    boolV t10 fun b3 => bcase b3 (
      Reads P (binS .eql 26 false t0 t1) h fun t14_2 =>
      R t14_2 h) (
      J1 h)))
  (fun h1 =>
  Runs P ((do let d ← Deferred.ofValue (.func (.func 75) #[] #[]) #[t1]; invoke d.target d.args)) h1 (fun t16 h2 =>
  Runs P (invoke (.fn (.method "Comparable") #[]) (#[t16] ++ #[])) h2 (fun t17 h3 =>
  CallsH P 95 #[t0, t1, t17] h3 (fun t21 h4 =>
  R t21 h4) E) E) E)
theorem C65 {E : List PanicEntry → Heap → Prop} {t0 t1 : Value} {h : Heap} {R : Value → Heap → Prop} (hs : S65 Tryz.prog E t0 t1 h R) : CallsH Tryz.prog 65 #[t0, t1] h R E :=
  calls_of_vc H65 Tryz.mixed Tryz.func65 rfl (by kernel_rfl) (by kernel_rfl) (Eq.mp (show S65 Tryz.prog E t0 t1 h R = vcFun Tryz.prog H65 E Tryz.f65.results.toList _ [t0, t1] h R from by kernel_rfl) hs)

def H66 : Hints := { r := fun _ => none, s := fun _ => none, l := fun _ => none, d := fun _ => none }
def S66 (P : Program) (E : List PanicEntry → Heap → Prop) (h : Heap) (R : Value → Heap → Prop) : Prop :=
  pAlloc P 33 h fun t0 h1 =>
  Reads P (Instr.build 33 #[]) h1 fun t1 =>
  CallsH P 96 #[t1] h1 (fun t2 h2 =>
  pStore P 33 t0 t2 h2 fun h3 =>
  pLoad P 33 t0 h3 fun r1 => R r1 h3) E
theorem C66 {E : List PanicEntry → Heap → Prop} {h : Heap} {R : Value → Heap → Prop} (hs : S66 Tryz.prog E  h R) : CallsH Tryz.prog 66 #[] h R E :=
  calls_of_vc H66 Tryz.mixed Tryz.func66 rfl (by kernel_rfl) (by kernel_rfl) (Eq.mp (show S66 Tryz.prog E  h R = vcFun Tryz.prog H66 E Tryz.f66.results.toList _ [] h R from by kernel_rfl) hs)

def H67 : Hints := { r := fun _ => none, s := fun _ => none, l := fun _ => none, d := fun _ => none }
def S67 (P : Program) (E : List PanicEntry → Heap → Prop) (t0 t1 : Value) (h : Heap) (R : Value → Heap → Prop) : Prop :=
  CallsH P 97 #[t0] h (fun t7 h1 =>
  Reads P (nilS t0) h1 fun t10 =>
  Reads P (Instr.fieldAt 87 t10 1) h1 fun t11 =>
  pLoad P 29 t11 h1 fun t12 =>
  Runs P (builtin .append #[29, 9] 29 #[false, false] #[t12, t1]) h1 (fun t14 h2 =>
  Reads P (nilS t0) h2 fun t15 =>
  Reads P (Instr.fieldAt 87 t15 1) h2 fun t16 =>
  pStore P 29 t16 t14 h2 fun h3 =>
  Reads P (builtinS .len #[9] 3 #[t1]) h3 fun t18 =>
  R (.tuple #[t18, .nilIface]) h3) E) E
theorem C67 {E : List PanicEntry → Heap → Prop} {t0 t1 : Value} {h : Heap} {R : Value → Heap → Prop} (hs : S67 Tryz.prog E t0 t1 h R) : CallsH Tryz.prog 67 #[t0, t1] h R E :=
  calls_of_vc H67 Tryz.mixed Tryz.func67 rfl (by kernel_rfl) (by kernel_rfl) (Eq.mp (show S67 Tryz.prog E t0 t1 h R = vcFun Tryz.prog H67 E Tryz.f67.results.toList _ [t0, t1] h R from by kernel_rfl) hs)

def H68 : Hints := { r := fun _ => none, s := fun i => match i with | 13 => some [] | _ => none, l := fun i => match i with | 5 => some [4] | 9 => some [4] | _ => none, d := fun _ => none }
def S68 (P : Program) (E : List PanicEntry → Heap → Prop) (t0 : Value) (h : Heap) (R : Value → Heap → Prop) : Prop :=
  pNew 33 t0 h fun t1 h1 =>
  pLoad P 33 t1 h1 fun t6 =>
  Reads P (Instr.build 33 #[]) h1 fun t7 =>
  Reads P (binS .eql 33 false t6 t7) h1 fun t8 =>
  boolV t8 fun b1 => bcase b1 (
    R (str [91, 93]) h1) (
    pAlloc P 87 h1 fun t3 h2 =>
  Loop1 (.int .i64 0) h2 (fun C2 t4 h3 =>
    Reads P (binS .lss 3 true t4 (.int .i64 256)) h3 fun t10 =>
    boolV t10 fun b3 => bcase b3 (
      pLoad P 33 t1 h3 fun t13 =>
    Reads P (convert 3 5 t4) h3 fun t15 =>
    CallsH P 98 #[t13, t15] h3 (fun t16 h4 =>
    Reads P (Op.unary .not t16) h4 fun t17 =>
    boolV t17 fun b4 => bcase b4 (
      Reads P (binS .add 3 true t4 (.int .i64 1)) h4 fun t12 =>
    C2 t12 h4) (
      Loop1 t4 h4 (fun C5 t4_2 h5 =>
      Reads P (binS .lss 3 true t4_2 (.int .i64 255)) h5 fun t20 =>
      boolV t20 fun b6 => bcase b6 (
      pLoad P 33 t1 h5 fun t22 =>
      Reads P (binS .add 3 true t4_2 (.int .i64 1)) h5 fun t24 =>
      Reads P (convert 3 5 t24) h5 fun t25 =>
      CallsH P 98 #[t22, t25] h5 (fun t26 h6 =>
      boolV t26 fun b7 => bcase b7 (
        Reads P (binS .add 3 true t4_2 (.int .i64 1)) h6 fun t29 =>
      C5 t29 h6) (
        Join0 (fun J8 =>
      CallsH P 99 #[t3] h6 (fun t30 h7 =>
      Reads P (binS .gtr 3 true t30 (.int .i64 0)) h7 fun t31 =>
      boolV t31 fun b9 => bcase b9 (
        CallsH P 70 #[t3, (.int .u8 44)] h7 (fun t32 h8 =>
        J8 h8) E) (
        J8 h7)) E)
    (fun h9 =>
    Reads P (convert 3 5 t4) h9 fun t34 =>
    CallsH P 100 #[t34] h9 (fun t35 h10 =>
    CallsH P 67 #[t3, t35] h10 (fun t36 h11 =>
    Reads P (binS .gtr 3 false t4_2 t4) h11 fun t39 =>
    boolV t39 fun b10 => bcase b10 (
      Reads P (convert 3 5 t4_2) h11 fun t41 =>
      CallsH P 100 #[t41] h11 (fun t42 h12 =>
      Reads P (binS .add 9 true (str [45]) t42) h12 fun t43 =>
      CallsH P 67 #[t3, t43] h12 (fun t44 h13 =>
      Reads P (binS .add 3 true t4_2 (.int .i64 1)) h13 fun t12_2 =>
    C2 t12_2 h13) E) E) (
      Reads P (binS .add 3 true t4_2 (.int .i64 1)) h11 fun t12_3 =>
    C2 t12_3 h11)) E) E))) E) (
      Join0 (fun J11 =>
      CallsH P 99 #[t3] h5 (fun t30_2 h14 =>
      Reads P (binS .gtr 3 true t30_2 (.int .i64 0)) h14 fun t31_2 =>
      boolV t31_2 fun b12 => bcase b12 (
        CallsH P 70 #[t3, (.int .u8 44)] h14 (fun t32_2 h15 =>
        J11 h15) E) (
        J11 h14)) E)
    (fun h16 =>
    Reads P (convert 3 5 t4) h16 fun t34_2 =>
    CallsH P 100 #[t34_2] h16 (fun t35_2 h17 =>
    CallsH P 67 #[t3, t35_2] h17 (fun t36_2 h18 =>
    Reads P (binS .gtr 3 false t4_2 t4) h18 fun t39_2 =>
    boolV t39_2 fun b13 => bcase b13 (
      Reads P (convert 3 5 t4_2) h18 fun t41_2 =>
      CallsH P 100 #[t41_2] h18 (fun t42_2 h19 =>
      Reads P (binS .add 9 true (str [45]) t42_2) h19 fun t43_2 =>
      CallsH P 67 #[t3, t43_2] h19 (fun t44_2 h20 =>
      Reads P (binS .add 3 true t4_2 (.int .i64 1)) h20 fun t12_4 =>
    C2 t12_4 h20) E) E) (
      Reads P (binS .add 3 true t4_2 (.int .i64 1)) h18 fun t12_5 =>
    C2 t12_5 h18)) E) E))))) E) (
      CallsH P 45 #[t3] h3 (fun t45 h21 =>
  Reads P (binS .add 9 true (str [91]) t45) h21 fun t46 =>
  Reads P (binS .add 9 true t46 (str [93])) h21 fun t47 =>
  R t47 h21) E)))
theorem C68 {E : List PanicEntry → Heap → Prop} {t0 : Value} {h : Heap} {R : Value → Heap → Prop} (hs : S68 Tryz.prog E t0 h R) : CallsH Tryz.prog 68 #[t0] h R E :=
  calls_of_vc H68 Tryz.mixed Tryz.func68 rfl (by kernel_rfl) (by kernel_rfl) (Eq.mp (show S68 Tryz.prog E t0 h R = vcFun Tryz.prog H68 E Tryz.f68.results.toList _ [t0] h R from by kernel_rfl) hs)

def H69 : Hints := { r := fun _ => none, s := fun _ => none, l := fun _ => none, d := fun _ => none }
def S69 (P : Program) (E : List PanicEntry → Heap → Prop) (t0 : Value) (h : Heap) (R : Value → Heap → Prop) : Prop :=
  Reads P (binS .lss 2 true t0 (.int .i64 0)) h fun t4 =>
  boolV t4 fun b1 => bcase b1 (
    Reads P (convert 2 31 t0) h fun t6 =>
    Reads P (Op.unary .neg t6) h fun t7 =>
    CallsH P 101 #[t7, (.int .i64 10), (.bool false)] h (fun t8 h1 =>
    Reads P (binS .add 9 true (str [45]) t8) h1 fun t9 =>
    R t9 h1) E) (
    Reads P (convert 2 31 t0) h fun t11 =>
  CallsH P 101 #[t11, (.int .i64 10), (.bool false)] h (fun t12 h2 =>
  R t12 h2) E)
theorem C69 {E : List PanicEntry → Heap → Prop} {t0 : Value} {h : Heap} {R : Value → Heap → Prop} (hs : S69 Tryz.prog E t0 h R) : CallsH Tryz.prog 69 #[t0] h R E :=
  calls_of_vc H69 Tryz.mixed Tryz.func69 rfl (by kernel_rfl) (by kernel_rfl) (Eq.mp (show S69 Tryz.prog E t0 h R = vcFun Tryz.prog H69 E Tryz.f69.results.toList _ [t0] h R from by kernel_rfl) hs)

def H70 : Hints := { r := fun _ => none, s := fun _ => none, l := fun _ => none, d := fun _ => none }
def S70 (P : Program) (E : List PanicEntry → Heap → Prop) (t0 t1 : Value) (h : Heap) (R : Value → Heap → Prop) : Prop :=
  CallsH P 97 #[t0] h (fun t6 h1 =>
  Reads P (nilS t0) h1 fun t9 =>
  Reads P (Instr.fieldAt 87 t9 1) h1 fun t10 =>
  pLoad P 29 t10 h1 fun t11 =>
  Runs P (vS (Instr.buildSlice 29 1 #[(0, t1)])) h1 (fun t13 h2 =>
  Runs P (builtin .append #[29, 29] 29 #[false, false] #[t11, t13]) h2 (fun t14 h3 =>
  Reads P (nilS t0) h3 fun t15 =>
  Reads P (Instr.fieldAt 87 t15 1) h3 fun t16 =>
  pStore P 29 t16 t14 h3 fun h4 =>
  R .nilIface h4) E) E) E
theorem C70 {E : List PanicEntry → Heap → Prop} {t0 t1 : Value} {h : Heap} {R : Value → Heap → Prop} (hs : S70 Tryz.prog E t0 t1 h R) : CallsH Tryz.prog 70 #[t0, t1] h R E :=
  calls_of_vc H70 Tryz.mixed Tryz.func70 rfl (by kernel_rfl) (by kernel_rfl) (Eq.mp (show S70 Tryz.prog E t0 t1 h R = vcFun Tryz.prog H70 E Tryz.f70.results.toList _ [t0, t1] h R from by kernel_rfl) hs)

def H78 : Hints := { r := fun _ => none, s := fun i => match i with | 3 => some [] | 7 => some [35] | 8 => some [] | _ => none, l := fun i => match i with | 2 => some [3] | _ => none, d := fun _ => none }
def S78 (P : Program) (E : List PanicEntry → Heap → Prop) (t0 : Value) (h : Heap) (R : Value → Heap → Prop) : Prop :=
  pAlloc P 36 h fun t2 h1 =>
  Loop1 (.slice none 0 0) h1 (fun C1 t3 h2 =>
    Join0 (fun J2 =>
      CallsH P 57 #[t0] h2 (fun t6 h3 =>
      Reads P (Op.unary .not t6) h3 fun t7 =>
      boolV t7 fun b3 => bcase b3 (
      CallsH P 81 #[t0, (str [124])] h3 (fun t10 h4 =>
      Reads P (Op.unary .not t10) h4 fun t11 =>
      boolV t11 fun b4 => bcase b4 (
      CallsH P 81 #[t0, (str [41])] h4 (fun t15 h5 =>
      Reads P (Op.unary .not t15) h5 fun t16 =>
      boolV t16 fun b5 => bcase b5 (
        J2 h5) (
        Reads P (builtinS .len #[34] 3 #[t3]) h5 fun t25 =>
  Reads P (binS .eql 3 true t25 (.int .i64 0)) h5 fun t26 =>
  boolV t26 fun b6 => bcase b6 (
    Join0 (fun J7 =>
      Join1 (fun J8 =>
        CallsH P 81 #[t0, (str [41])] h5 (fun t28 h6 =>
        boolV t28 fun b9 => bcase b9 (
        Reads P (nilS t0) h6 fun t31 =>
        Reads P (Instr.fieldAt 57 t31 3) h6 fun t32 =>
        pLoad P 3 t32 h6 fun t33 =>
        Reads P (binS .eql 3 true t33 (.int .i64 0)) h6 fun t34 =>
        J8 t34 h6) (
        J8 (.bool false) h6)) E)
      (fun t35 h7 =>
      boolV t35 fun b10 => bcase b10 (
        Reads P (nilS t0) h7 fun t38 =>
        Reads P (Instr.fieldAt 57 t38 1) h7 fun t39 =>
        pLoad P 3 t39 h7 fun t40 =>
        CallsH P 58 #[t0, (.int .i64 9), t40] h7 (fun t41 h8 =>
        J7 h8) E) (
        J7 h7)))
    (fun h9 =>
    Reads P (nilS t0) h9 fun t44 =>
    Reads P (Instr.fieldAt 57 t44 1) h9 fun t45 =>
    pLoad P 3 t45 h9 fun t46 =>
    CallsH P 58 #[t0, (.int .i64 3), t46] h9 (fun t47 h10 =>
    CallsH P 80 #[(.int .i64 4), t3] h10 (fun t49 h11 =>
  pStore P 36 t2 t49 h11 fun h12 =>
  pLoad P 36 t2 h12 fun r11 => R r11 h12) E) E)) (
    CallsH P 80 #[(.int .i64 4), t3] h5 (fun t49_2 h13 =>
  pStore P 36 t2 t49_2 h13 fun h14 =>
  pLoad P 36 t2 h14 fun r12 => R r12 h14) E))) E) (
      Reads P (builtinS .len #[34] 3 #[t3]) h4 fun t25_2 =>
  Reads P (binS .eql 3 true t25_2 (.int .i64 0)) h4 fun t26_2 =>
  boolV t26_2 fun b13 => bcase b13 (
    Join0 (fun J14 =>
      Join1 (fun J15 =>
        CallsH P 81 #[t0, (str [41])] h4 (fun t28_2 h15 =>
        boolV t28_2 fun b16 => bcase b16 (
        Reads P (nilS t0) h15 fun t31_2 =>
        Reads P (Instr.fieldAt 57 t31_2 3) h15 fun t32_2 =>
        pLoad P 3 t32_2 h15 fun t33_2 =>
        Reads P (binS .eql 3 true t33_2 (.int .i64 0)) h15 fun t34_2 =>
        J15 t34_2 h15) (
        J15 (.bool false) h15)) E)
      (fun t35_2 h16 =>
      boolV t35_2 fun b17 => bcase b17 (
        Reads P (nilS t0) h16 fun t38_2 =>
        Reads P (Instr.fieldAt 57 t38_2 1) h16 fun t39_2 =>
        pLoad P 3 t39_2 h16 fun t40_2 =>
        CallsH P 58 #[t0, (.int .i64 9), t40_2] h16 (fun t41_2 h17 =>
        J14 h17) E) (
        J14 h16)))
    (fun h18 =>
    Reads P (nilS t0) h18 fun t44_2 =>
    Reads P (Instr.fieldAt 57 t44_2 1) h18 fun t45_2 =>
    pLoad P 3 t45_2 h18 fun t46_2 =>
    CallsH P 58 #[t0, (.int .i64 3), t46_2] h18 (fun t47_2 h19 =>
    CallsH P 80 #[(.int .i64 4), t3] h19 (fun t49_3 h20 =>
  pStore P 36 t2 t49_3 h20 fun h21 =>
  pLoad P 36 t2 h21 fun r18 => R r18 h21) E) E)) (
    CallsH P 80 #[(.int .i64 4), t3] h4 (fun t49_4 h22 =>
  pStore P 36 t2 t49_4 h22 fun h23 =>
  pLoad P 36 t2 h23 fun r19 => R r19 h23) E))) E) (
      Reads P (builtinS .len #[34] 3 #[t3]) h3 fun t25_3 =>
  Reads P (binS .eql 3 true t25_3 (.int .i64 0)) h3 fun t26_3 =>
  boolV t26_3 fun b20 => bcase b20 (
    Join0 (fun J21 =>
      Join1 (fun J22 =>
        CallsH P 81 #[t0, (str [41])] h3 (fun t28_3 h24 =>
        boolV t28_3 fun b23 => bcase b23 (
        Reads P (nilS t0) h24 fun t31_3 =>
        Reads P (Instr.fieldAt 57 t31_3 3) h24 fun t32_3 =>
        pLoad P 3 t32_3 h24 fun t33_3 =>
        Reads P (binS .eql 3 true t33_3 (.int .i64 0)) h24 fun t34_3 =>
        J22 t34_3 h24) (
        J22 (.bool false) h24)) E)
      (fun t35_3 h25 =>
      boolV t35_3 fun b24 => bcase b24 (
        Reads P (nilS t0) h25 fun t38_3 =>
        Reads P (Instr.fieldAt 57 t38_3 1) h25 fun t39_3 =>
        pLoad P 3 t39_3 h25 fun t40_3 =>
        CallsH P 58 #[t0, (.int .i64 9), t40_3] h25 (fun t41_3 h26 =>
        J21 h26) E) (
        J21 h25)))
    (fun h27 =>
    Reads P (nilS t0) h27 fun t44_3 =>
    Reads P (Instr.fieldAt 57 t44_3 1) h27 fun t45_3 =>
    pLoad P 3 t45_3 h27 fun t46_3 =>
    CallsH P 58 #[t0, (.int .i64 3), t46_3] h27 (fun t47_3 h28 =>
    CallsH P 80 #[(.int .i64 4), t3] h28 (fun t49_5 h29 =>
  pStore P 36 t2 t49_5 h29 fun h30 =>
  pLoad P 36 t2 h30 fun r25 => R r25 h30) E) E)) (
    CallsH P 80 #[(.int .i64 4), t3] h3 (fun t49_6 h31 =>
  pStore P 36 t2 t49_6 h31 fun h32 =>
  pLoad P 36 t2 h32 fun r26 => R r26 h32) E))) E)
    (fun h33 =>
    CallsH P 104 #[t0] h33 (fun t19 h34 =>
    pAlloc P 36 h34 fun t4 h35 =>
    pStore P 36 t4 t19 h35 fun h36 =>
    pLoad P 36 t4 h36 fun t21 =>
    Runs P (vS (Instr.buildSlice 34 1 #[(0, t21)])) h36 (fun t22 h37 =>
    Runs P (builtin .append #[34, 34] 34 #[false, false] #[t3, t22]) h37 (fun t23 h38 =>
    C1 t23 h38) E) E) E))
theorem C78 {E : List PanicEntry → Heap → Prop} {t0 : Value} {h : Heap} {R : Value → Heap → Prop} (hs : S78 Tryz.prog E t0 h R) : CallsH Tryz.prog 78 #[t0] h R E :=
  calls_of_vc H78 Tryz.mixed Tryz.func78 rfl (by kernel_rfl) (by kernel_rfl) (Eq.mp (show S78 Tryz.prog E t0 h R = vcFun Tryz.prog H78 E Tryz.f78.results.toList _ [t0] h R from by kernel_rfl) hs)

def H79 : Hints := { r := fun _ => none, s := fun _ => none, l := fun _ => none, d := fun _ => none }
def S79 (P : Program) (E : List PanicEntry → Heap → Prop) (t0 t1 : Value) (h : Heap) (R : Value → Heap → Prop) : Prop :=
  CallsH P 81 #[t0, t1] h (fun t8 h1 =>
  boolV t8 fun b1 => bcase b1 (
    Reads P (nilS t0) h1 fun t11 =>
    Reads P (Instr.fieldAt 57 t11 1) h1 fun t12 =>
    pLoad P 3 t12 h1 fun t13 =>
    Reads P (builtinS .len #[9] 3 #[t1]) h1 fun t15 =>
    Reads P (binS .add 3 false t13 t15) h1 fun t16 =>
    Reads P (nilS t0) h1 fun t17 =>
    Reads P (Instr.fieldAt 57 t17 1) h1 fun t18 =>
    pStore P 3 t18 t16 h1 fun h2 =>
    R t8 h2) (
    R t8 h1)) E
theorem C79 {E : List PanicEntry → Heap → Prop} {t0 t1 : Value} {h : Heap} {R : Value → Heap → Prop} (hs : S79 Tryz.prog E t0 t1 h R) : CallsH Tryz.prog 79 #[t0, t1] h R E :=
  calls_of_vc H79 Tryz.mixed Tryz.func79 rfl (by kernel_rfl) (by kernel_rfl) (Eq.mp (show S79 Tryz.prog E t0 t1 h R = vcFun Tryz.prog H79 E Tryz.f79.results.toList _ [t0, t1] h R from by kernel_rfl) hs)

def H80 : Hints := { r := fun _ => none, s := fun _ => none, l := fun _ => none, d := fun _ => none }
def S80 (P : Program) (E : List PanicEntry → Heap → Prop) (t0 t1 : Value) (h : Heap) (R : Value → Heap → Prop) : Prop :=
  pAlloc P 36 h fun t4 h1 =>
  Reads P (builtinS .len #[34] 3 #[t1]) h1 fun t6 =>
  Reads P (binS .eql 3 true t6 (.int .i64 1)) h1 fun t7 =>
  boolV t7 fun b1 => bcase b1 (
    Reads P (Instr.indexAt 34 t1 (.int .i64 0)) h1 fun t9 =>
    pLoad P 36 t9 h1 fun t10 =>
    pStore P 36 t4 t10 h1 fun h2 =>
    pLoad P 36 t4 h2 fun r2 => R r2 h2) (
    Reads P (Instr.build 36 #[(0, t0), (5, t1)]) h1 fun t13 =>
  pStore P 36 t4 t13 h1 fun h3 =>
  pLoad P 36 t4 h3 fun r3 => R r3 h3)
theorem C80 {E : List PanicEntry → Heap → Prop} {t0 t1 : Value} {h : Heap} {R : Value → Heap → Prop} (hs : S80 Tryz.prog E t0 t1 h R) : CallsH Tryz.prog 80 #[t0, t1] h R E :=
  calls_of_vc H80 Tryz.mixed Tryz.func80 rfl (by kernel_rfl) (by kernel_rfl) (Eq.mp (show S80 Tryz.prog E t0 t1 h R = vcFun Tryz.prog H80 E Tryz.f80.results.toList _ [t0, t1] h R from by kernel_rfl) hs)

def H81 : Hints := { r := fun _ => none, s := fun _ => none, l := fun _ => none, d := fun i => match i with | 1 => some (.cut 1 (.take 0 (.take 1 (.take 2 (.take 3 (.take 4 (.take 5 (.take 6 (.take 7 (.take 8 (.take 9 (.take 10 (.take 11 (.take 12 (.take 13 (.take 14 (.take 15 (.take 16 (.take 17 (.take 18 (.take 19 (.take 20 (.take 21 (.take 22 (.take 23 (.take 24 (.take 25 (.take 26 (.take 27 (.take 28 (.take 29 (.take 30 (.take 31 (.take 32 (.take 33 (.take 34 .done)))))))))))))))))))))))))))))))))))) | _ => none }
def S81 (P : Program) (E : List PanicEntry → Heap → Prop) (t0 t1 : Value) (h : Heap) (R : Value → Heap → Prop) : Prop :=
  Reads P (nilS t0) h fun t6 =>
  Reads P (Instr.fieldAt 57 t6 1) h fun t7 =>
  pLoad P 3 t7 h fun t8 =>
  Reads P (builtinS .len #[9] 3 #[t1]) h fun t10 =>
  Reads P (binS .add 3 false t8 t10) h fun t11 =>
  Reads P (nilS t0) h fun t13 =>
  Reads P (Instr.fieldAt 57 t13 0) h fun t14 =>
  pLoad P 29 t14 h fun t15 =>
  Reads P (builtinS .len #[29] 3 #[t15]) h fun t16 =>
  Reads P (binS .leq 3 false t11 t16) h fun t17 =>
  boolV t17 fun b1 => bcase b1 (
  Reads P (nilS t0) h fun t20 =>
  Reads P (Instr.fieldAt 57 t20 0) h fun t21 =>
  pLoad P 29 t21 h fun t22 =>
  Reads P (nilS t0) h fun t24 =>
  Reads P (Instr.fieldAt 57 t24 1) h fun t25 =>
  pLoad P 3 t25 h fun t26 =>
  Reads P (nilS t0) h fun t28 =>
  Reads P (Instr.fieldAt 57 t28 1) h fun t29 =>
  pLoad P 3 t29 h fun t30 =>
  Reads P (builtinS .len #[9] 3 #[t1]) h fun t32 =>
  Reads P (binS .add 3 false t30 t32) h fun t33 =>
  Reads P (Instr.sliceAt 29 t22 (some t26) (some t33) none) h fun t34 =>
  Reads P (convert 29 9 t34) h fun t35 =>
  Reads P (binS .eql 9 false t35 t1) h fun t37 =>
  R t37 h) (
  R (.bool false) h)
theorem C81 {E : List PanicEntry → Heap → Prop} {t0 t1 : Value} {h : Heap} {R : Value → Heap → Prop} (hs : S81 Tryz.prog E t0 t1 h R) : CallsH Tryz.prog 81 #[t0, t1] h R E :=
  calls_of_vc H81 Tryz.mixed Tryz.func81 rfl (by kernel_rfl) (by kernel_rfl) (Eq.mp (show S81 Tryz.prog E t0 t1 h R = vcFun Tryz.prog H81 E Tryz.f81.results.toList _ [t0, t1] h R from by kernel_rfl) hs)

def H82 : Hints := { r := fun _ => none, s := fun i => match i with | 6 => some [16] | 13 => some [] | _ => none, l := fun _ => none, d := fun _ => none }
def S82 (P : Program) (E : List PanicEntry → Heap → Prop) (t0 : Value) (h : Heap) (R : Value → Heap → Prop) : Prop :=
  pAlloc P 36 h fun t2 h1 =>
  Reads P (nilS t0) h1 fun t5 =>
  Reads P (Instr.fieldAt 57 t5 1) h1 fun t6 =>
  pLoad P 3 t6 h1 fun t7 =>
  Join0 (fun J1 =>
    CallsH P 79 #[t0, (str [92, 40])] h1 (fun t10 h2 =>
    boolV t10 fun b2 => bcase b2 (
      Reads P (Instr.makeFunc (.func 56) #[t0] #[]) h2 fun t14 =>
      CallsH P 105 #[t0, t7, (str [92, 41]), t14] h2 (fun t15 h3 =>
      pStore P 36 t2 t15 h3 fun h4 =>
      pLoad P 36 t2 h4 fun r3 => R r3 h4) E) (
      Join1 (fun J4 =>
        CallsH P 81 #[t0, (str [92, 123])] h2 (fun t18 h5 =>
        boolV t18 fun b5 => bcase b5 (
          J4 (.bool true) h5) (
          CallsH P 81 #[t0, (str [92, 125])] h5 (fun t20 h6 =>
          J4 t20 h6) E)) E)
      (fun t16 h7 =>
      boolV t16 fun b6 => bcase b6 (
        Reads P (nilS t0) h7 fun t23 =>
        Reads P (Instr.fieldAt 57 t23 1) h7 fun t24 =>
        pLoad P 3 t24 h7 fun t25 =>
        CallsH P 58 #[t0, (.int .i64 3), t25] h7 (fun t26 h8 =>
        J1 h8) E) (
        CallsH P 81 #[t0, (str [92])] h7 (fun t29 h9 =>
        boolV t29 fun b7 => bcase b7 (
          CallsH P 106 #[t0, (str [46, 91, 93, 42, 94, 36, 47, 92])] h9 (fun t31 h10 =>
          pStore P 36 t2 t31 h10 fun h11 =>
          pLoad P 36 t2 h11 fun r8 => R r8 h11) E) (
          CallsH P 79 #[t0, (str [46])] h9 (fun t34 h12 =>
          boolV t34 fun b9 => bcase b9 (
            CallsH P 66 #[] h12 (fun t35 h13 =>
            Reads P (Instr.build 36 #[(0, (.int .i64 1)), (1, t35)]) h13 fun t36 =>
            pStore P 36 t2 t36 h13 fun h14 =>
            pLoad P 36 t2 h14 fun r10 => R r10 h14) E) (
            CallsH P 79 #[t0, (str [91])] h12 (fun t39 h15 =>
            boolV t39 fun b11 => bcase b11 (
              CallsH P 107 #[t0] h15 (fun t41 h16 =>
              pStore P 36 t2 t41 h16 fun h17 =>
              pLoad P 36 t2 h17 fun r12 => R r12 h17) E) (
              J1 h15)) E)) E)) E)))) E)
  (fun h18 =>
  Reads P (nilS t0) h18 fun t43 =>
  Reads P (Instr.fieldAt 57 t43 1) h18 fun t44 =>
  pLoad P 3 t44 h18 fun t45 =>
  Reads P (binS .add 3 true t45 (.int .i64 1)) h18 fun t46 =>
  Reads P (nilS t0) h18 fun t47 =>
  Reads P (Instr.fieldAt 57 t47 1) h18 fun t48 =>
  pStore P 3 t48 t46 h18 fun h19 =>
  Reads P (nilS t0) h19 fun t50 =>
  Reads P (Instr.fieldAt 57 t50 0) h19 fun t51 =>
  pLoad P 29 t51 h19 fun t52 =>
  Reads P (Instr.indexAt 29 t52 t7) h19 fun t54 =>
  pLoad P 5 t54 h19 fun t55 =>
  CallsH P 108 #[t55] h19 (fun t56 h20 =>
  pStore P 36 t2 t56 h20 fun h21 =>
  pLoad P 36 t2 h21 fun r13 => R r13 h21) E)
theorem C82 {E : List PanicEntry → Heap → Prop} {t0 : Value} {h : Heap} {R : Value → Heap → Prop} (hs : S82 Tryz.prog E t0 h R) : CallsH Tryz.prog 82 #[t0] h R E :=
  calls_of_vc H82 Tryz.mixed Tryz.func82 rfl (by kernel_rfl) (by kernel_rfl) (Eq.mp (show S82 Tryz.prog E t0 h R = vcFun Tryz.prog H82 E Tryz.f82.results.toList _ [t0] h R from by kernel_rfl) hs)

def H83 : Hints := { r := fun _ => none, s := fun _ => none, l := fun _ => none, d := fun _ => none }
def S83 (P : Program) (E : List PanicEntry → Heap → Prop) (t0 t1 t2 : Value) (h : Heap) (R : Value → Heap → Prop) : Prop :=
  pNew 36 t0 h fun t3 h1 =>
  pAlloc P 36 h1 fun t6 h2 =>
  pLoad P 36 t3 h2 fun t9 =>
  Runs P (vS (Instr.buildSlice 34 1 #[(0, t9)])) h2 (fun t10 h3 =>
  Reads P (Instr.build 36 #[(0, (.int .i64 6)), (2, t1), (3, t2), (5, t10)]) h3 fun t11 =>
  pStore P 36 t6 t11 h3 fun h4 =>
  pLoad P 36 t6 h4 fun r1 => R r1 h4) E
theorem C83 {E : List PanicEntry → Heap → Prop} {t0 t1 t2 : Value} {h : Heap} {R : Value → Heap → Prop} (hs : S83 Tryz.prog E t0 t1 t2 h R) : CallsH Tryz.prog 83 #[t0, t1, t2] h R E :=
  calls_of_vc H83 Tryz.mixed Tryz.func83 rfl (by kernel_rfl) (by kernel_rfl) (Eq.mp (show S83 Tryz.prog E t0 t1 t2 h R = vcFun Tryz.prog H83 E Tryz.f83.results.toList _ [t0, t1, t2] h R from by kernel_rfl) hs)

def H84 : Hints := { r := fun _ => none, s := fun i => match i with | 4 => some [19] | 9 => some [10] | 11 => some [] | _ => none, l := fun _ => none, d := fun _ => none }
def S84 (P : Program) (E : List PanicEntry → Heap → Prop) (t0 t1 t2 t3 : Value) (h : Heap) (R : Value → Heap → Prop) : Prop :=
  pNew 36 t1 h fun t5 h1 =>
  pAlloc P 36 h1 fun t8 h2 =>
  CallsH P 109 #[t0] h2 (fun t12 h3 =>
  Join1 (fun J1 =>
    Join1 (fun J2 =>
      Reads P (binS .geq 3 true t12 (.int .i64 0)) h3 fun t15 =>
      boolV t15 fun b3 => bcase b3 (
      CallsH P 79 #[t0, (str [44])] h3 (fun t18 h4 =>
      J2 t18 h4) E) (
      J2 (.bool false) h3))
    (fun t19 h5 =>
    boolV t19 fun b4 => bcase b4 (
      CallsH P 81 #[t0, t3] h5 (fun t22 h6 =>
      Reads P (Op.unary .not t22) h6 fun t23 =>
      boolV t23 fun b5 => bcase b5 (
        CallsH P 109 #[t0] h6 (fun t25 h7 =>
        Reads P (binS .lss 3 true t25 (.int .i64 0)) h7 fun t27 =>
        boolV t27 fun b6 => bcase b6 (
          CallsH P 58 #[t0, (.int .i64 7), t2] h7 (fun t30 h8 =>
          J1 t25 h8) E) (
          J1 t25 h7)) E) (
        J1 (.int .i64 (-1)) h6)) E) (
      J1 t12 h5)))
  (fun t10 h9 =>
  Join0 (fun J7 =>
    Reads P (binS .lss 3 true t12 (.int .i64 0)) h9 fun t32 =>
    boolV t32 fun b8 => bcase b8 (
    (undef = undef ∧ ((undef = undef ∧ ((undef = undef ∧ (CallsH P 58 #[t0, (.int .i64 7), t2] h9 (fun t58 h10 =>
    J7 h10) E))))))) (
    CallsH P 79 #[t0, t3] h9 (fun t36 h11 =>
    Reads P (Op.unary .not t36) h11 fun t37 =>
    boolV t37 fun b9 => bcase b9 (
    (undef = undef ∧ ((undef = undef ∧ ((undef = undef ∧ (CallsH P 58 #[t0, (.int .i64 7), t2] h11 (fun t58_2 h12 =>
    J7 h12) E))))))) (
    Reads P (binS .gtr 3 true t12 (.int .i64 255)) h11 fun t41 =>
    boolV t41 fun b10 => bcase b10 (
    (undef = undef ∧ ((undef = undef ∧ ((undef = undef ∧ (CallsH P 58 #[t0, (.int .i64 7), t2] h11 (fun t58_3 h13 =>
    J7 h13) E))))))) (
    Reads P (binS .gtr 3 true t10 (.int .i64 255)) h11 fun t45 =>
    boolV t45 fun b11 => bcase b11 (
    (undef = undef ∧ ((undef = undef ∧ ((undef = undef ∧ (CallsH P 58 #[t0, (.int .i64 7), t2] h11 (fun t58_4 h14 =>
    J7 h14) E))))))) (
    Reads P (binS .geq 3 true t10 (.int .i64 0)) h11 fun t49 =>
    boolV t49 fun b12 => bcase b12 (
    Reads P (binS .lss 3 false t10 t12) h11 fun t53 =>
    boolV t53 fun b13 => bcase b13 (
      CallsH P 58 #[t0, (.int .i64 7), t2] h11 (fun t58_5 h15 =>
      J7 h15) E) (
      J7 h11)) (
    J7 h11))))) E))
  (fun h16 =>
  pLoad P 36 t5 h16 fun t59 =>
  CallsH P 83 #[t59, t12, t10] h16 (fun t62 h17 =>
  pStore P 36 t8 t62 h17 fun h18 =>
  pLoad P 36 t8 h18 fun r14 => R r14 h18) E))) E
theorem C84 {E : List PanicEntry → Heap → Prop} {t0 t1 t2 t3 : Value} {h : Heap} {R : Value → Heap → Prop} (hs : S84 Tryz.prog E t0 t1 t2 t3 h R) : CallsH Tryz.prog 84 #[t0, t1, t2, t3] h R E :=
  calls_of_vc H84 Tryz.mixed Tryz.func84 rfl (by kernel_rfl) (by kernel_rfl) (Eq.mp (show S84 Tryz.prog E t0 t1 t2 t3 h R = vcFun Tryz.prog H84 E Tryz.f84.results.toList _ [t0, t1, t2, t3] h R from by kernel_rfl) hs)

def H95 : Hints := { r := fun _ => none, s := fun i => match i with | 3 => some [] | 6 => some [] | _ => none, l := fun i => match i with | 1 => some [0] | 17 => some [45] | _ => none, d := fun _ => none }
def S95 (P : Program) (E : List PanicEntry → Heap → Prop) (t0 t1 t2 : Value) (h : Heap) (R : Value → Heap → Prop) : Prop :=
  Loop1 t0 h (fun C1 t0_2 h1 =>
    Join0 (fun J2 =>
      boolV t2 fun b3 => bcase b3 (
      Reads P (binS .eql 26 false t0_2 t1) h1 fun t18 =>
      boolV t18 fun b4 => bcase b4 (
        R (.bool true) h1) (
        J2 h1)) (
      J2 h1))
    (fun h2 =>
    Join0 (fun J5 =>
      Reads P (Instr.typeAssert t0_2 26 152 true) h2 fun t22 =>
      Reads P (Instr.extract t22 0) h2 fun t23 =>
      Reads P (Instr.extract t22 1) h2 fun t24 =>
      boolV t24 fun b6 => bcase b6 (
      Runs P (invoke (.fn (.method "Is") #[]) (#[t23] ++ #[t1])) h2 (fun t29 h3 =>
      boolV t29 fun b7 => bcase b7 (
        R (.bool true) h3) (
        J5 h3)) E) (
      J5 h2))
    (fun h4 =>
    Reads P (Instr.typeAssert t0_2 26 125 true) h4 fun t32 =>
    Reads P (Instr.extract t32 1) h4 fun t33 =>
    Reads P (Instr.extract t32 0) h4 fun t34 =>
    boolV t33 fun b8 => bcase b8 (
      Runs P (invoke (.fn (.method "Unwrap") #[]) (#[t34] ++ #[])) h4 (fun t36 h5 =>
      Reads P (binS .eql 26 true t36 .nilIface) h5 fun t38 =>
      boolV t38 fun b9 => bcase b9 (
        R (.bool false) h5) (
        C1 t36 h5)) E) (
      Reads P (Instr.typeAssert t0_2 26 127 true) h4 fun t39 =>
      Reads P (Instr.extract t39 1) h4 fun t40 =>
      Reads P (Instr.extract t39 0) h4 fun t41 =>
      boolV t40 fun b10 => bcase b10 (
        Runs P (invoke (.fn (.method "Unwrap") #[]) (#[t41] ++ #[])) h4 (fun t43 h6 =>
        Reads P (builtinS .len #[128] 3 #[t43]) h6 fun t44 =>
        Loop1 (.int .i64 0) h6 (fun C11 t45 h7 =>
          Reads P (binS .lss 3 false t45 t44) h7 fun t46 =>
          boolV t46 fun b12 => bcase b12 (
            Reads P (Instr.indexAt 128 t43 t45) h7 fun t47 =>
          pLoad P 26 t47 h7 fun t48 =>
          CallsH P 95 #[t48, t1, t2] h7 (fun t52 h8 =>
          boolV t52 fun b13 => bcase b13 (
            R (.bool true) h8) (
            Reads P (binS .add 3 true t45 (.int .i64 1)) h8 fun t53 =>
          C11 t53 h8)) E) (
            R (.bool false) h7))) E) (
        R (.bool false) h4)))))
theorem C95 {E : List PanicEntry → Heap → Prop} {t0 t1 t2 : Value} {h : Heap} {R : Value → Heap → Prop} (hs : S95 Tryz.prog E t0 t1 t2 h R) : CallsH Tryz.prog 95 #[t0, t1, t2] h R E :=
  calls_of_vc H95 Tryz.mixed Tryz.func95 rfl (by kernel_rfl) (by kernel_rfl) (Eq.mp (show S95 Tryz.prog E t0 t1 t2 h R = vcFun Tryz.prog H95 E Tryz.f95.results.toList _ [t0, t1, t2] h R from by kernel_rfl) hs)

def H96 : Hints := { r := fun _ => none, s := fun _ => none, l := fun i => match i with | 2 => some [4] | _ => none, d := fun _ => none }
def S96 (P : Program) (E : List PanicEntry → Heap → Prop) (t0 : Value) (h : Heap) (R : Value → Heap → Prop) : Prop :=
  pNew 33 t0 h fun t1 h1 =>
  pAlloc P 33 h1 fun t2 h2 =>
  Loop1 (.int .i64 0) h2 (fun C1 t4 h3 =>
    Reads P (binS .lss 3 true t4 (.int .i64 4)) h3 fun t5 =>
    boolV t5 fun b2 => bcase b2 (
      Reads P (Instr.indexAt 33 t1 t4) h3 fun t9 =>
    pLoad P 31 t9 h3 fun t10 =>
    Reads P (Op.unary .xor t10) h3 fun t11 =>
    Reads P (Instr.indexAt 33 t1 t4) h3 fun t12 =>
    pStore P 31 t12 t11 h3 fun h4 =>
    Reads P (binS .add 3 true t4 (.int .i64 1)) h4 fun t13 =>
    C1 t13 h4) (
      pLoad P 33 t1 h3 fun t14 =>
  pStore P 33 t2 t14 h3 fun h5 =>
  pLoad P 33 t2 h5 fun r3 => R r3 h5))
theorem C96 {E : List PanicEntry → Heap → Prop} {t0 : Value} {h : Heap} {R : Value → Heap → Prop} (hs : S96 Tryz.prog E t0 h R) : CallsH Tryz.prog 96 #[t0] h R E :=
  calls_of_vc H96 Tryz.mixed Tryz.func96 rfl (by kernel_rfl) (by kernel_rfl) (Eq.mp (show S96 Tryz.prog E t0 h R = vcFun Tryz.prog H96 E Tryz.f96.results.toList _ [t0] h R from by kernel_rfl) hs)

def H97 : Hints := { r := fun _ => none, s := fun _ => none, l := fun _ => none, d := fun _ => none }
def S97 (P : Program) (E : List PanicEntry → Heap → Prop) (t0 : Value) (h : Heap) (R : Value → Heap → Prop) : Prop :=
  Reads P (nilS t0) h fun t3 =>
  Reads P (Instr.fieldAt 87 t3 0) h fun t4 =>
  pLoad P 85 t4 h fun t5 =>
  Reads P (binS .eql 85 true t5 (.pointer none)) h fun t6 =>
  boolV t6 fun b1 => bcase b1 (
    Reads P (convert 85 91 t0) h fun t9 =>
    Runs P ((do let d ← Deferred.ofValue (.func (.func 112) #[] #[]) #[t9]; invoke d.target d.args)) h (fun t10 h1 =>
    Reads P (convert 91 85 t10) h1 fun t11 =>
    Reads P (nilS t0) h1 fun t12 =>
    Reads P (Instr.fieldAt 87 t12 0) h1 fun t13 =>
    pStore P 85 t13 t11 h1 fun h2 =>
    R (.tuple #[]) h2) E) (
    Reads P (nilS t0) h fun t15 =>
    Reads P (Instr.fieldAt 87 t15 0) h fun t16 =>
    pLoad P 85 t16 h fun t17 =>
    Reads P (binS .neq 85 false t17 t0) h fun t19 =>
    boolV t19 fun b2 => bcase b2 (
      False) (
      R (.tuple #[]) h))
theorem C97 {E : List PanicEntry → Heap → Prop} {t0 : Value} {h : Heap} {R : Value → Heap → Prop} (hs : S97 Tryz.prog E t0 h R) : CallsH Tryz.prog 97 #[t0] h R E :=
  calls_of_vc H97 Tryz.mixed Tryz.func97 rfl (by kernel_rfl) (by kernel_rfl) (Eq.mp (show S97 Tryz.prog E t0 h R = vcFun Tryz.prog H97 E Tryz.f97.results.toList _ [t0] h R from by kernel_rfl) hs)

def H98 : Hints := { r := fun _ => none, s := fun _ => none, l := fun _ => none, d := fun _ => none }
def S98 (P : Program) (E : List PanicEntry → Heap → Prop) (t0 t1 : Value) (h : Heap) (R : Value → Heap → Prop) : Prop :=
  pNew 33 t0 h fun t2 h1 =>
  Reads P (binS .quo 5 true t1 (.int .u8 64)) h1 fun t6 =>
  Reads P (Instr.indexAt 33 t2 t6) h1 fun t7 =>
  pLoad P 31 t7 h1 fun t8 =>
  Reads P (binS .rem 5 true t1 (.int .u8 64)) h1 fun t10 =>
  Reads P (binS .shr 31 false t8 t10) h1 fun t11 =>
  Reads P (binS .and 31 true t11 (.int .u64 1)) h1 fun t12 =>
  Reads P (binS .eql 31 true t12 (.int .u64 1)) h1 fun t13 =>
  R t13 h1
theorem C98 {E : List PanicEntry → Heap → Prop} {t0 t1 : Value} {h : Heap} {R : Value → Heap → Prop} (hs : S98 Tryz.prog E t0 t1 h R) : CallsH Tryz.prog 98 #[t0, t1] h R E :=
  calls_of_vc H98 Tryz.mixed Tryz.func98 rfl (by kernel_rfl) (by kernel_rfl) (Eq.mp (show S98 Tryz.prog E t0 t1 h R = vcFun Tryz.prog H98 E Tryz.f98.results.toList _ [t0, t1] h R from by kernel_rfl) hs)

def H99 : Hints := { r := fun _ => none, s := fun _ => none, l := fun _ => none, d := fun _ => none }
def S99 (P : Program) (E : List PanicEntry → Heap → Prop) (t0 : Value) (h : Heap) (R : Value → Heap → Prop) : Prop :=
  Reads P (nilS t0) h fun t4 =>
  Reads P (Instr.fieldAt 87 t4 1) h fun t5 =>
  pLoad P 29 t5 h fun t6 =>
  Reads P (builtinS .len #[29] 3 #[t6]) h fun t7 =>
  R t7 h
theorem C99 {E : List PanicEntry → Heap → Prop} {t0 : Value} {h : Heap} {R : Value → Heap → Prop} (hs : S99 Tryz.prog E t0 h R) : CallsH Tryz.prog 99 #[t0] h R E :=
  calls_of_vc H99 Tryz.mixed Tryz.func99 rfl (by kernel_rfl) (by kernel_rfl) (Eq.mp (show S99 Tryz.prog E t0 h R = vcFun Tryz.prog H99 E Tryz.f99.results.toList _ [t0] h R from by kernel_rfl) hs)

def H100 : Hints := { r := fun _ => none, s := fun _ => none, l := fun _ => none, d := fun _ => none }
def S100 (P : Program) (E : List PanicEntry → Heap → Prop) (t0 : Value) (h : Heap) (R : Value → Heap → Prop) : Prop :=
  Reads P (binS .shr 5 true t0 (.int .u64 4)) h fun t4 =>
  Reads P (convert 5 31 t4) h fun t5 =>
  CallsH P 101 #[t5, (.int .i64 16), (.bool false)] h (fun t6 h1 =>
  Reads P (binS .and 5 true t0 (.int .u8 15)) h1 fun t8 =>
  Reads P (convert 5 31 t8) h1 fun t9 =>
  CallsH P 101 #[t9, (.int .i64 16), (.bool false)] h1 (fun t10 h2 =>
  Reads P (binS .add 9 false t6 t10) h2 fun t11 =>
  R t11 h2) E) E
theorem C100 {E : List PanicEntry → Heap → Prop} {t0 : Value} {h : Heap} {R : Value → Heap → Prop} (hs : S100 Tryz.prog E t0 h R) : CallsH Tryz.prog 100 #[t0] h R E :=
  calls_of_vc H100 Tryz.mixed Tryz.func100 rfl (by kernel_rfl) (by kernel_rfl) (Eq.mp (show S100 Tryz.prog E t0 h R = vcFun Tryz.prog H100 E Tryz.f100.results.toList _ [t0] h R from by kernel_rfl) hs)

def H101 : Hints := { r := fun _ => none, s := fun i => match i with | 3 => some [] | 6 => some [7] | _ => none, l := fun i => match i with | 8 => some [0, 9] | _ => none, d := fun _ => none }
def S101 (P : Program) (E : List PanicEntry → Heap → Prop) (t0 t1 t2 : Value) (h : Heap) (R : Value → Heap → Prop) : Prop :=
  Join0 (fun J1 =>
    Reads P (binS .lss 3 true t1 (.int .i64 2)) h fun t11 =>
    boolV t11 fun b2 => bcase b2 (
    R (str []) h) (
    Reads P (binS .gtr 3 true t1 (.int .i64 16)) h fun t14 =>
    boolV t14 fun b3 => bcase b3 (
      R (str []) h) (
      J1 h)))
  (fun h1 =>
  Join1 (fun J4 =>
    boolV t2 fun b5 => bcase b5 (
      J4 (str [48, 49, 50, 51, 52, 53, 54, 55, 56, 57, 65, 66, 67, 68, 69, 70]) h1) (
      J4 (str [48, 49, 50, 51, 52, 53, 54, 55, 56, 57, 97, 98, 99, 100, 101, 102]) h1))
  (fun t7 h2 =>
  pAlloc P 156 h2 fun t8 h3 =>
  Loop2 t0 (.int .i64 64) h3 (fun C6 t0_2 t9 h4 =>
    Reads P (binS .sub 3 true t9 (.int .i64 1)) h4 fun t18 =>
    Reads P (convert 3 31 t1) h4 fun t23 =>
    Reads P (binS .rem 31 false t0_2 t23) h4 fun t24 =>
    Reads P (Instr.index 9 t7 t24) h4 fun t25 =>
    Reads P (Instr.indexAt 156 t8 t18) h4 fun t26 =>
    pStore P 5 t26 t25 h4 fun h5 =>
    Reads P (convert 3 31 t1) h5 fun t29 =>
    Reads P (binS .quo 31 false t0_2 t29) h5 fun t30 =>
    Reads P (binS .eql 31 true t30 (.int .u64 0)) h5 fun t32 =>
    boolV t32 fun b7 => bcase b7 (
      Reads P (Instr.sliceAt 156 t8 (some t18) none none) h5 fun t34 =>
      Reads P (convert 29 9 t34) h5 fun t35 =>
      R t35 h5) (
      C6 t30 t18 h5))))
theorem C101 {E : List PanicEntry → Heap → Prop} {t0 t1 t2 : Value} {h : Heap} {R : Value → Heap → Prop} (hs : S101 Tryz.prog E t0 t1 t2 h R) : CallsH Tryz.prog 101 #[t0, t1, t2] h R E :=
  calls_of_vc H101 Tryz.mixed Tryz.func101 rfl (by kernel_rfl) (by kernel_rfl) (Eq.mp (show S101 Tryz.prog E t0 t1 t2 h R = vcFun Tryz.prog H101 E Tryz.f101.results.toList _ [t0, t1, t2] h R from by kernel_rfl) hs)

def H104 : Hints := { r := fun _ => none, s := fun i => match i with | 19 => some [] | _ => none, l := fun i => match i with | 19 => some [] | _ => none, d := fun _ => none }
def S104 (P : Program) (E : List PanicEntry → Heap → Prop) (t0 : Value) (h : Heap) (R : Value → Heap → Prop) : Prop :=
  pAlloc P 36 h fun t2 h1 =>
  Reads P (nilS t0) h1 fun t6 =>
  Reads P (Instr.fieldAt 57 t6 1) h1 fun t7 =>
  pLoad P 3 t7 h1 fun t8 =>
  pAlloc P 36 h1 fun t4 h2 =>
  Join0 (fun J1 =>
    CallsH P 117 #[t0] h2 (fun t26 h3 =>
    boolV t26 fun b2 => bcase b2 (
      Reads P (nilS t0) h3 fun t29 =>
      Reads P (Instr.fieldAt 57 t29 1) h3 fun t30 =>
      pLoad P 3 t30 h3 fun t31 =>
      CallsH P 58 #[t0, (.int .i64 3), t31] h3 (fun t32 h4 =>
      J1 h4) E) (
      CallsH P 79 #[t0, (str [94])] h3 (fun t35 h5 =>
      boolV t35 fun b3 => bcase b3 (
        CallsH P 118 #[t0, (.int .i64 2)] h5 (fun t37 h6 =>
        pStore P 36 t2 t37 h6 fun h7 =>
        pLoad P 36 t2 h7 fun r4 => R r4 h7) E) (
        CallsH P 79 #[t0, (str [36])] h5 (fun t40 h8 =>
        boolV t40 fun b5 => bcase b5 (
          CallsH P 118 #[t0, (.int .i64 3)] h8 (fun t42 h9 =>
          pStore P 36 t2 t42 h9 fun h10 =>
          pLoad P 36 t2 h10 fun r6 => R r6 h10) E) (
          CallsH P 79 #[t0, (str [40])] h8 (fun t45 h11 =>
          boolV t45 fun b7 => bcase b7 (
            Reads P (Instr.makeFunc (.func 55) #[t0] #[]) h11 fun t49 =>
            CallsH P 105 #[t0, t8, (str [41]), t49] h11 (fun t50 h12 =>
            pStore P 36 t4 t50 h12 fun h13 =>
            J1 h13) E) (
            CallsH P 81 #[t0, (str [92])] h11 (fun t53 h14 =>
            boolV t53 fun b8 => bcase b8 (
              CallsH P 106 #[t0, (str [46, 91, 93, 40, 41, 42, 43, 63, 123, 125, 124, 94, 36, 47, 92])] h14 (fun t55 h15 =>
              pStore P 36 t4 t55 h15 fun h16 =>
              J1 h16) E) (
              CallsH P 79 #[t0, (str [46])] h14 (fun t58 h17 =>
              boolV t58 fun b9 => bcase b9 (
                CallsH P 66 #[] h17 (fun t59 h18 =>
                Reads P (Instr.build 36 #[(0, (.int .i64 1)), (1, t59)]) h18 fun t60 =>
                pStore P 36 t4 t60 h18 fun h19 =>
                J1 h19) E) (
                CallsH P 79 #[t0, (str [91])] h17 (fun t63 h20 =>
                boolV t63 fun b10 => bcase b10 (
                  CallsH P 107 #[t0] h20 (fun t65 h21 =>
                  pStore P 36 t4 t65 h21 fun h22 =>
                  J1 h22) E) (
                  Reads P (nilS t0) h20 fun t10 =>
                  Reads P (Instr.fieldAt 57 t10 1) h20 fun t11 =>
                  pLoad P 3 t11 h20 fun t12 =>
                  Reads P (binS .add 3 true t12 (.int .i64 1)) h20 fun t13 =>
                  Reads P (nilS t0) h20 fun t14 =>
                  Reads P (Instr.fieldAt 57 t14 1) h20 fun t15 =>
                  pStore P 3 t15 t13 h20 fun h23 =>
                  Reads P (nilS t0) h23 fun t17 =>
                  Reads P (Instr.fieldAt 57 t17 0) h23 fun t18 =>
                  pLoad P 29 t18 h23 fun t19 =>
                  Reads P (Instr.indexAt 29 t19 t8) h23 fun t21 =>
                  pLoad P 5 t21 h23 fun t22 =>
                  CallsH P 108 #[t22] h23 (fun t23 h24 =>
                  pStore P 36 t4 t23 h24 fun h25 =>
                  J1 h25) E)) E)) E)) E)) E)) E)) E)) E)
  (fun h26 =>
  Loop0 h26 (fun C11 h27 =>
    CallsH P 117 #[t0] h27 (fun t67 h28 =>
    boolV t67 fun b12 => bcase b12 (
      Reads P (nilS t0) h28 fun t69 =>
    Reads P (Instr.fieldAt 57 t69 1) h28 fun t70 =>
    pLoad P 3 t70 h28 fun t71 =>
    CallsH P 79 #[t0, (str [42])] h28 (fun t74 h29 =>
    boolV t74 fun b13 => bcase b13 (
      pLoad P 36 t4 h29 fun t75 =>
      CallsH P 83 #[t75, (.int .i64 0), (.int .i64 (-1))] h29 (fun t76 h30 =>
      pStore P 36 t4 t76 h30 fun h31 =>
      C11 h31) E) (
      CallsH P 79 #[t0, (str [43])] h29 (fun t79 h32 =>
      boolV t79 fun b14 => bcase b14 (
        pLoad P 36 t4 h32 fun t80 =>
        CallsH P 83 #[t80, (.int .i64 1), (.int .i64 (-1))] h32 (fun t81 h33 =>
        pStore P 36 t4 t81 h33 fun h34 =>
        C11 h34) E) (
        CallsH P 79 #[t0, (str [63])] h32 (fun t84 h35 =>
        boolV t84 fun b15 => bcase b15 (
          pLoad P 36 t4 h35 fun t85 =>
          CallsH P 83 #[t85, (.int .i64 0), (.int .i64 1)] h35 (fun t86 h36 =>
          pStore P 36 t4 t86 h36 fun h37 =>
          C11 h37) E) (
          CallsH P 79 #[t0, (str [123])] h35 (fun t89 h38 =>
          boolV t89 fun b16 => bcase b16 (
            pLoad P 36 t4 h38 fun t91 =>
            CallsH P 84 #[t0, t91, t71, (str [125])] h38 (fun t93 h39 =>
            pStore P 36 t4 t93 h39 fun h40 =>
            C11 h40) E) (
            C11 h38)) E)) E)) E)) E) (
      pLoad P 36 t4 h28 fun t94 =>
  pStore P 36 t2 t94 h28 fun h41 =>
  pLoad P 36 t2 h41 fun r17 => R r17 h41)) E))
theorem C104 {E : List PanicEntry → Heap → Prop} {t0 : Value} {h : Heap} {R : Value → Heap → Prop} (hs : S104 Tryz.prog E t0 h R) : CallsH Tryz.prog 104 #[t0] h R E :=
  calls_of_vc H104 Tryz.mixed Tryz.func104 rfl (by kernel_rfl) (by kernel_rfl) (Eq.mp (show S104 Tryz.prog E t0 h R = vcFun Tryz.prog H104 E Tryz.f104.results.toList _ [t0] h R from by kernel_rfl) hs)

def H105 : Hints := { r := fun _ => none, s := fun i => match i with | 3 => some [] | 9 => some [] | _ => none, l := fun _ => none, d := fun _ => none }
def S105 (P : Program) (E : List PanicEntry → Heap → Prop) (t0 t1 t2 t3 : Value) (h : Heap) (R : Value → Heap → Prop) : Prop :=
  pAlloc P 36 h fun t8 h1 =>
  Join0 (fun J1 =>
    Reads P (nilS t0) h1 fun t12 =>
    Reads P (Instr.fieldAt 57 t12 4) h1 fun t13 =>
    pLoad P 3 t13 h1 fun t14 =>
    Reads P (binS .eql 3 true t14 (.int .i64 9)) h1 fun t15 =>
    boolV t15 fun b2 => bcase b2 (
      CallsH P 58 #[t0, (.int .i64 5), t1] h1 (fun t18 h2 =>
      J1 h2) E) (
      J1 h1))
  (fun h3 =>
  Reads P (nilS t0) h3 fun t20 =>
  Reads P (Instr.fieldAt 57 t20 4) h3 fun t21 =>
  pLoad P 3 t21 h3 fun t22 =>
  Reads P (binS .add 3 true t22 (.int .i64 1)) h3 fun t23 =>
  Reads P (nilS t0) h3 fun t24 =>
  Reads P (Instr.fieldAt 57 t24 4) h3 fun t25 =>
  pStore P 3 t25 t23 h3 fun h4 =>
  Reads P (nilS t0) h4 fun t27 =>
  Reads P (Instr.fieldAt 57 t27 4) h4 fun t28 =>
  pLoad P 3 t28 h4 fun t29 =>
  Reads P (nilS t0) h4 fun t31 =>
  Reads P (Instr.fieldAt 57 t31 3) h4 fun t32 =>
  pLoad P 3 t32 h4 fun t33 =>
  Reads P (binS .add 3 true t33 (.int .i64 1)) h4 fun t34 =>
  Reads P (nilS t0) h4 fun t35 =>
  Reads P (Instr.fieldAt 57 t35 3) h4 fun t36 =>
  pStore P 3 t36 t34 h4 fun h5 =>
  Runs P ((do let d ← Deferred.ofValue t3 #[]; invoke d.target d.args)) h5 (fun t38 h6 =>
  pAlloc P 36 h6 fun t10 h7 =>
  pStore P 36 t10 t38 h7 fun h8 =>
  Join0 (fun J3 =>
    CallsH P 79 #[t0, t2] h8 (fun t41 h9 =>
    Reads P (Op.unary .not t41) h9 fun t42 =>
    boolV t42 fun b4 => bcase b4 (
      Reads P (nilS t0) h9 fun t45 =>
      Reads P (Instr.fieldAt 57 t45 0) h9 fun t46 =>
      pLoad P 29 t46 h9 fun t47 =>
      Reads P (builtinS .len #[29] 3 #[t47]) h9 fun t48 =>
      CallsH P 58 #[t0, (.int .i64 9), t48] h9 (fun t49 h10 =>
      J3 h10) E) (
      J3 h9)) E)
  (fun h11 =>
  Reads P (nilS t0) h11 fun t51 =>
  Reads P (Instr.fieldAt 57 t51 3) h11 fun t52 =>
  pLoad P 3 t52 h11 fun t53 =>
  Reads P (binS .sub 3 true t53 (.int .i64 1)) h11 fun t54 =>
  Reads P (nilS t0) h11 fun t55 =>
  Reads P (Instr.fieldAt 57 t55 3) h11 fun t56 =>
  pStore P 3 t56 t54 h11 fun h12 =>
  pLoad P 36 t10 h12 fun t58 =>
  Runs P (vS (Instr.buildSlice 34 1 #[(0, t58)])) h12 (fun t59 h13 =>
  Reads P (Instr.build 36 #[(0, (.int .i64 7)), (4, t29), (5, t59)]) h13 fun t60 =>
  pStore P 36 t8 t60 h13 fun h14 =>
  pLoad P 36 t8 h14 fun r5 => R r5 h14) E)) E)
theorem C105 {E : List PanicEntry → Heap → Prop} {t0 t1 t2 t3 : Value} {h : Heap} {R : Value → Heap → Prop} (hs : S105 Tryz.prog E t0 t1 t2 t3 h R) : CallsH Tryz.prog 105 #[t0, t1, t2, t3] h R E :=
  calls_of_vc H105 Tryz.mixed Tryz.func105 rfl (by kernel_rfl) (by kernel_rfl) (Eq.mp (show S105 Tryz.prog E t0 t1 t2 t3 h R = vcFun Tryz.prog H105 E Tryz.f105.results.toList _ [t0, t1, t2, t3] h R from by kernel_rfl) hs)

def H106 : Hints := { r := fun _ => none, s := fun i => match i with | 3 => some [] | 7 => some [5] | 9 => some [] | _ => none, l := fun _ => none, d := fun i => match i with | 1 => some (.cut 1 (.take 0 (.take 1 (.take 2 (.take 3 (.take 4 (.take 5 (.take 6 (.take 7 (.take 8 (.take 9 (.take 10 .done)))))))))))) | 3 => some (.cut 1 (.take 0 (.take 1 (.take 2 (.take 3 (.take 4 (.take 5 (.take 6 (.take 7 (.take 8 (.take 9 (.take 10 (.take 11 .done))))))))))))) | _ => none }
def S106 (P : Program) (E : List PanicEntry → Heap → Prop) (t0 t1 : Value) (h : Heap) (R : Value → Heap → Prop) : Prop :=
  pAlloc P 36 h fun t4 h1 =>
  Join0 (fun J1 =>
    Reads P (nilS t0) h1 fun t7 =>
    Reads P (Instr.fieldAt 57 t7 1) h1 fun t8 =>
    pLoad P 3 t8 h1 fun t9 =>
    Reads P (binS .add 3 true t9 (.int .i64 1)) h1 fun t10 =>
    Reads P (nilS t0) h1 fun t12 =>
    Reads P (Instr.fieldAt 57 t12 0) h1 fun t13 =>
    pLoad P 29 t13 h1 fun t14 =>
    Reads P (builtinS .len #[29] 3 #[t14]) h1 fun t15 =>
    Reads P (binS .geq 3 false t10 t15) h1 fun t16 =>
    boolV t16 fun b2 => bcase b2 (
      Reads P (nilS t0) h1 fun t19 =>
      Reads P (Instr.fieldAt 57 t19 1) h1 fun t20 =>
      pLoad P 3 t20 h1 fun t21 =>
      CallsH P 58 #[t0, (.int .i64 10), t21] h1 (fun t22 h2 =>
      J1 h2) E) (
      J1 h1))
  (fun h3 =>
  Reads P (nilS t0) h3 fun t24 =>
  Reads P (Instr.fieldAt 57 t24 0) h3 fun t25 =>
  pLoad P 29 t25 h3 fun t26 =>
  Reads P (nilS t0) h3 fun t28 =>
  Reads P (Instr.fieldAt 57 t28 1) h3 fun t29 =>
  pLoad P 3 t29 h3 fun t30 =>
  Reads P (binS .add 3 true t30 (.int .i64 1)) h3 fun t31 =>
  Reads P (Instr.indexAt 29 t26 t31) h3 fun t32 =>
  pLoad P 5 t32 h3 fun t33 =>
  Join0 (fun J3 =>
    Join1 (fun J4 =>
      Reads P (binS .eql 5 true t33 (.int .u8 110)) h3 fun t36 =>
      boolV t36 fun b5 => bcase b5 (
        J4 (.int .u8 10) h3) (
        CallsH P 24 #[t1, t33] h3 (fun t40 h4 =>
      Reads P (binS .geq 3 true t40 (.int .i64 0)) h4 fun t41 =>
      boolV t41 fun b6 => bcase b6 (
        J4 t33 h4) (
        J3 h4)) E))
    (fun t5 h5 =>
    Reads P (nilS t0) h5 fun t43 =>
    Reads P (Instr.fieldAt 57 t43 1) h5 fun t44 =>
    pLoad P 3 t44 h5 fun t45 =>
    Reads P (binS .add 3 true t45 (.int .i64 2)) h5 fun t46 =>
    Reads P (nilS t0) h5 fun t47 =>
    Reads P (Instr.fieldAt 57 t47 1) h5 fun t48 =>
    pStore P 3 t48 t46 h5 fun h6 =>
    CallsH P 108 #[t5] h6 (fun t50 h7 =>
    pStore P 36 t4 t50 h7 fun h8 =>
    pLoad P 36 t4 h8 fun r7 => R r7 h8) E))
  (fun h9 =>
  Reads P (nilS t0) h9 fun t53 =>
  Reads P (Instr.fieldAt 57 t53 1) h9 fun t54 =>
  pLoad P 3 t54 h9 fun t55 =>
  CallsH P 58 #[t0, (.int .i64 10), t55] h9 (fun t56 h10 =>
  Reads P (Instr.build 36 #[]) h10 fun t57 =>
  pStore P 36 t4 t57 h10 fun h11 =>
  pLoad P 36 t4 h11 fun r8 => R r8 h11) E))
theorem C106 {E : List PanicEntry → Heap → Prop} {t0 t1 : Value} {h : Heap} {R : Value → Heap → Prop} (hs : S106 Tryz.prog E t0 t1 h R) : CallsH Tryz.prog 106 #[t0, t1] h R E :=
  calls_of_vc H106 Tryz.mixed Tryz.func106 rfl (by kernel_rfl) (by kernel_rfl) (Eq.mp (show S106 Tryz.prog E t0 t1 h R = vcFun Tryz.prog H106 E Tryz.f106.results.toList _ [t0, t1] h R from by kernel_rfl) hs)

def H107 : Hints := { r := fun _ => none, s := fun i => match i with | 4 => some [] | _ => none, l := fun _ => none, d := fun i => match i with | 1 => some (.cut 2 (.take 0 (.take 1 (.take 2 (.take 3 (.take 4 (.take 5 (.take 6 (.take 7 (.take 8 (.act 9 (.act 10 (.take 11 (.take 12 (.take 13 (.take 14 (.act 15 (.act 16 (.take 17 (.cut 1 (.take 18 .done))) .stop) .stop))))) (.act 15 (.act 10 (.take 11 (.take 12 (.take 13 (.take 14 (.act 16 (.take 17 (.cut 1 (.take 18 .done))) .stop))))) .stop) .stop)) (.act 15 (.act 9 (.act 10 (.take 11 (.take 12 (.take 13 (.take 14 (.act 16 (.take 17 (.cut 1 (.take 18 .done))) .stop))))) .stop) .stop) .stop)))))))))))) | _ => none }
def S107 (P : Program) (E : List PanicEntry → Heap → Prop) (t0 : Value) (h : Heap) (R : Value → Heap → Prop) : Prop :=
  pAlloc P 36 h fun t2 h1 =>
  Stable h1 fun S1 =>
  ReadsS P (nilS t0) S1 fun t8 =>
  ReadsS P (Instr.fieldAt 57 t8 0) S1 fun t9 =>
  pLoadS P 29 t9 S1 fun t10 =>
  ReadsS P (nilS t0) S1 fun t12 =>
  ReadsS P (Instr.fieldAt 57 t12 1) S1 fun t13 =>
  pLoadS P 3 t13 S1 fun t14 =>
  (CallsH P 28 #[t0] h1 (fun t16 h2 =>
  S1 h2 ∧ ((CallsH P 119 #[t10, t14, t16] h2 (fun t17 h3 =>
  S1 h3 ∧ (ReadsS P (Instr.extract t17 0) S1 fun t18 =>
  ReadsS P (Instr.extract t17 1) S1 fun t19 =>
  ReadsS P (Instr.extract t17 2) S1 fun t20 =>
  (pAlloc P 33 h3 fun t3 h4 =>
  S1 h4 ∧ ((pStore P 33 t3 t18 h4 fun h5 =>
  S1 h5 ∧ (Join0 (fun J2 =>
    Reads P (binS .neq 26 true t20 .nilIface) h5 fun t22 =>
    boolV t22 fun b3 => bcase b3 (
      Reads P (Instr.build 62 #[(0, t20)]) h5 fun t24 =>
      Reads P (Instr.makeInterface 62 t24) h5 fun t25 =>
      Runs P (vS (Instr.panic t25)) h5 (fun u4 h6 =>
      J2 h6) E) (
      J2 h5))
  (fun h7 =>
  Reads P (nilS t0) h7 fun t28 =>
  Reads P (Instr.fieldAt 57 t28 1) h7 fun t29 =>
  pStore P 3 t29 t19 h7 fun h8 =>
  pLoad P 33 t3 h8 fun t30 =>
  Reads P (Instr.build 36 #[(0, (.int .i64 1)), (1, t30)]) h8 fun t31 =>
  pStore P 36 t2 t31 h8 fun h9 =>
  pLoad P 36 t2 h9 fun r5 => R r5 h9))) ∧ True)) ∧ True)) E) ∧ ((pAlloc P 33 h2 fun t3_2 h10 =>
  S1 h10 ∧ ((CallsH P 119 #[t10, t14, t16] h10 (fun t17_2 h11 =>
  S1 h11 ∧ (ReadsS P (Instr.extract t17_2 0) S1 fun t18_2 =>
  ReadsS P (Instr.extract t17_2 1) S1 fun t19_2 =>
  ReadsS P (Instr.extract t17_2 2) S1 fun t20_2 =>
  (pStore P 33 t3_2 t18_2 h11 fun h12 =>
  S1 h12 ∧ (Join0 (fun J6 =>
    Reads P (binS .neq 26 true t20_2 .nilIface) h12 fun t22_2 =>
    boolV t22_2 fun b7 => bcase b7 (
      Reads P (Instr.build 62 #[(0, t20_2)]) h12 fun t24_2 =>
      Reads P (Instr.makeInterface 62 t24_2) h12 fun t25_2 =>
      Runs P (vS (Instr.panic t25_2)) h12 (fun u8 h13 =>
      J6 h13) E) (
      J6 h12))
  (fun h14 =>
  Reads P (nilS t0) h14 fun t28_2 =>
  Reads P (Instr.fieldAt 57 t28_2 1) h14 fun t29_2 =>
  pStore P 3 t29_2 t19_2 h14 fun h15 =>
  pLoad P 33 t3_2 h15 fun t30_2 =>
  Reads P (Instr.build 36 #[(0, (.int .i64 1)), (1, t30_2)]) h15 fun t31_2 =>
  pStore P 36 t2 t31_2 h15 fun h16 =>
  pLoad P 36 t2 h16 fun r9 => R r9 h16))) ∧ True)) E) ∧ True)) ∧ True))) E) ∧ ((pAlloc P 33 h1 fun t3_3 h17 =>
  S1 h17 ∧ ((CallsH P 28 #[t0] h17 (fun t16_2 h18 =>
  S1 h18 ∧ ((CallsH P 119 #[t10, t14, t16_2] h18 (fun t17_3 h19 =>
  S1 h19 ∧ (ReadsS P (Instr.extract t17_3 0) S1 fun t18_3 =>
  ReadsS P (Instr.extract t17_3 1) S1 fun t19_3 =>
  ReadsS P (Instr.extract t17_3 2) S1 fun t20_3 =>
  (pStore P 33 t3_3 t18_3 h19 fun h20 =>
  S1 h20 ∧ (Join0 (fun J10 =>
    Reads P (binS .neq 26 true t20_3 .nilIface) h20 fun t22_3 =>
    boolV t22_3 fun b11 => bcase b11 (
      Reads P (Instr.build 62 #[(0, t20_3)]) h20 fun t24_3 =>
      Reads P (Instr.makeInterface 62 t24_3) h20 fun t25_3 =>
      Runs P (vS (Instr.panic t25_3)) h20 (fun u12 h21 =>
      J10 h21) E) (
      J10 h20))
  (fun h22 =>
  Reads P (nilS t0) h22 fun t28_3 =>
  Reads P (Instr.fieldAt 57 t28_3 1) h22 fun t29_3 =>
  pStore P 3 t29_3 t19_3 h22 fun h23 =>
  pLoad P 33 t3_3 h23 fun t30_3 =>
  Reads P (Instr.build 36 #[(0, (.int .i64 1)), (1, t30_3)]) h23 fun t31_3 =>
  pStore P 36 t2 t31_3 h23 fun h24 =>
  pLoad P 36 t2 h24 fun r13 => R r13 h24))) ∧ True)) E) ∧ True)) E) ∧ True)) ∧ True)
theorem C107 {E : List PanicEntry → Heap → Prop} {t0 : Value} {h : Heap} {R : Value → Heap → Prop} (hs : S107 Tryz.prog E t0 h R) : CallsH Tryz.prog 107 #[t0] h R E :=
  calls_of_vc H107 Tryz.mixed Tryz.func107 rfl (by kernel_rfl) (by kernel_rfl) (Eq.mp (show S107 Tryz.prog E t0 h R = vcFun Tryz.prog H107 E Tryz.f107.results.toList _ [t0] h R from by kernel_rfl) hs)

def H108 : Hints := { r := fun _ => none, s := fun _ => none, l := fun _ => none, d := fun _ => none }
def S108 (P : Program) (E : List PanicEntry → Heap → Prop) (t0 : Value) (h : Heap) (R : Value → Heap → Prop) : Prop :=
  pAlloc P 36 h fun t2 h1 =>
  Runs P (vS (Instr.buildSlice 29 1 #[(0, t0)])) h1 (fun t4 h2 =>
  Reads P (convert 29 9 t4) h2 fun t5 =>
  CallsH P 120 #[t5] h2 (fun t6 h3 =>
  Reads P (Instr.build 36 #[(0, (.int .i64 1)), (1, t6)]) h3 fun t7 =>
  pStore P 36 t2 t7 h3 fun h4 =>
  pLoad P 36 t2 h4 fun r1 => R r1 h4) E) E
theorem C108 {E : List PanicEntry → Heap → Prop} {t0 : Value} {h : Heap} {R : Value → Heap → Prop} (hs : S108 Tryz.prog E t0 h R) : CallsH Tryz.prog 108 #[t0] h R E :=
  calls_of_vc H108 Tryz.mixed Tryz.func108 rfl (by kernel_rfl) (by kernel_rfl) (Eq.mp (show S108 Tryz.prog E t0 h R = vcFun Tryz.prog H108 E Tryz.f108.results.toList _ [t0] h R from by kernel_rfl) hs)

def H109 : Hints := { r := fun _ => none, s := fun _ => none, l := fun _ => none, d := fun i => match i with | 1 => some (.cut 1 (.take 0 (.take 1 (.take 2 (.take 3 (.take 4 (.take 5 (.take 6 (.take 7 (.take 8 (.cut 0 (.act 9 (.cut 1 (.take 10 (.take 11 (.take 12 (.take 13 (.take 14 (.take 15 (.take 16 .done)))))))) .stop)))))))))))) | _ => none }
def S109 (P : Program) (E : List PanicEntry → Heap → Prop) (t0 : Value) (h : Heap) (R : Value → Heap → Prop) : Prop :=
  Reads P (nilS t0) h fun t8 =>
  Reads P (Instr.fieldAt 57 t8 0) h fun t9 =>
  pLoad P 29 t9 h fun t10 =>
  Reads P (nilS t0) h fun t12 =>
  Reads P (Instr.fieldAt 57 t12 1) h fun t13 =>
  pLoad P 3 t13 h fun t14 =>
  Reads P (Instr.sliceAt 29 t10 (some t14) none none) h fun t15 =>
  (CallsH P 121 #[t15, (.int .i64 10)] h (fun t16 h1 =>
  True ∧ (Reads P (Instr.extract t16 0) h1 fun t17 =>
  Reads P (Instr.extract t16 1) h1 fun t18 =>
  Reads P (Instr.extract t16 2) h1 fun t19 =>
  Reads P (nilS t0) h1 fun t21 =>
  Reads P (Instr.fieldAt 57 t21 1) h1 fun t22 =>
  pLoad P 3 t22 h1 fun t23 =>
  Reads P (binS .add 3 false t23 t18) h1 fun t25 =>
  Reads P (nilS t0) h1 fun t26 =>
  Reads P (Instr.fieldAt 57 t26 1) h1 fun t27 =>
  pStore P 3 t27 t25 h1 fun h2 =>
  Reads P (binS .lss 3 true t18 (.int .i64 1)) h2 fun t29 =>
  boolV t29 fun b1 => bcase b1 (
  R (.int .i64 (-1)) h2) (
  Reads P (binS .gtr 3 true t18 (.int .i64 3)) h2 fun t32 =>
  boolV t32 fun b2 => bcase b2 (
    R (.int .i64 (-1)) h2) (
    R t17 h2)))) E) ∧ True
theorem C109 {E : List PanicEntry → Heap → Prop} {t0 : Value} {h : Heap} {R : Value → Heap → Prop} (hs : S109 Tryz.prog E t0 h R) : CallsH Tryz.prog 109 #[t0] h R E :=
  calls_of_vc H109 Tryz.mixed Tryz.func109 rfl (by kernel_rfl) (by kernel_rfl) (Eq.mp (show S109 Tryz.prog E t0 h R = vcFun Tryz.prog H109 E Tryz.f109.results.toList _ [t0] h R from by kernel_rfl) hs)

def H117 : Hints := { r := fun _ => none, s := fun _ => none, l := fun _ => none, d := fun _ => none }
def S117 (P : Program) (E : List PanicEntry → Heap → Prop) (t0 : Value) (h : Heap) (R : Value → Heap → Prop) : Prop :=
  CallsH P 81 #[t0, (str [42])] h (fun t4 h1 =>
  boolV t4 fun b1 => bcase b1 (
  R (.bool true) h1) (
  CallsH P 81 #[t0, (str [43])] h1 (fun t7 h2 =>
  boolV t7 fun b2 => bcase b2 (
  R (.bool true) h2) (
  CallsH P 81 #[t0, (str [63])] h2 (fun t11 h3 =>
  boolV t11 fun b3 => bcase b3 (
  R (.bool true) h3) (
  CallsH P 81 #[t0, (str [123])] h3 (fun t15 h4 =>
  R t15 h4) E)) E)) E)) E
theorem C117 {E : List PanicEntry → Heap → Prop} {t0 : Value} {h : Heap} {R : Value → Heap → Prop} (hs : S117 Tryz.prog E t0 h R) : CallsH Tryz.prog 117 #[t0] h R E :=
  calls_of_vc H117 Tryz.mixed Tryz.func117 rfl (by kernel_rfl) (by kernel_rfl) (Eq.mp (show S117 Tryz.prog E t0 h R = vcFun Tryz.prog H117 E Tryz.f117.results.toList _ [t0] h R from by kernel_rfl) hs)

def H118 : Hints := { r := fun _ => none, s := fun _ => none, l := fun _ => none, d := fun _ => none }
def S118 (P : Program) (E : List PanicEntry → Heap → Prop) (t0 t1 : Value) (h : Heap) (R : Value → Heap → Prop) : Prop :=
  pAlloc P 36 h fun t4 h1 =>
  CallsH P 117 #[t0] h1 (fun t6 h2 =>
  boolV t6 fun b1 => bcase b1 (
    Reads P (nilS t0) h2 fun t9 =>
    Reads P (Instr.fieldAt 57 t9 1) h2 fun t10 =>
    pLoad P 3 t10 h2 fun t11 =>
    CallsH P 58 #[t0, (.int .i64 3), t11] h2 (fun t12 h3 =>
    Reads P (Instr.build 36 #[(0, t1)]) h3 fun t14 =>
  pStore P 36 t4 t14 h3 fun h4 =>
  pLoad P 36 t4 h4 fun r2 => R r2 h4) E) (
    Reads P (Instr.build 36 #[(0, t1)]) h2 fun t14_2 =>
  pStore P 36 t4 t14_2 h2 fun h5 =>
  pLoad P 36 t4 h5 fun r3 => R r3 h5)) E
theorem C118 {E : List PanicEntry → Heap → Prop} {t0 t1 : Value} {h : Heap} {R : Value → Heap → Prop} (hs : S118 Tryz.prog E t0 t1 h R) : CallsH Tryz.prog 118 #[t0, t1] h R E :=
  calls_of_vc H118 Tryz.mixed Tryz.func118 rfl (by kernel_rfl) (by kernel_rfl) (Eq.mp (show S118 Tryz.prog E t0 t1 h R = vcFun Tryz.prog H118 E Tryz.f118.results.toList _ [t0, t1] h R from by kernel_rfl) hs)

def H119 : Hints := { r := fun _ => none, s := fun i => match i with | 3 => some [36] | _ => none, l := fun _ => none, d := fun i => match i with | 7 => some (.cut 2 (.take 0 (.take 1 (.take 2 (.take 3 (.take 4 (.act 5 (.cut 1 (.take 6 (.take 7 .done))) .stop))))))) | _ => none }
def S119 (P : Program) (E : List PanicEntry → Heap → Prop) (t0 t1 t2 : Value) (h : Heap) (R : Value → Heap → Prop) : Prop :=
  pAlloc P 33 h fun t6 h1 =>
  Reads P (Instr.build 177 #[(0, t0), (1, t1), (2, t2)]) h1 fun t15 =>
  pNew 177 t15 h1 fun t16 h2 =>
  Join1 (fun J1 =>
    Reads P (binS .lss 3 true t1 (.int .i64 0)) h2 fun t18 =>
    boolV t18 fun b2 => bcase b2 (
    (undef = undef ∧ ((undef = undef ∧ ((undef = undef ∧ ((undef = undef ∧ (J1 (.bool true) h2))))))))) (
    Reads P (builtinS .len #[29] 3 #[t0]) h2 fun t22 =>
    Reads P (binS .gtr 3 false t1 t22) h2 fun t23 =>
    boolV t23 fun b3 => bcase b3 (
    (undef = undef ∧ ((undef = undef ∧ ((undef = undef ∧ ((undef = undef ∧ (J1 (.bool true) h2))))))))) (
    Reads P (binS .neq 3 true t2 (.int .i64 2)) h2 fun t27 =>
    boolV t27 fun b4 => bcase b4 (
    Reads P (binS .neq 3 true t2 (.int .i64 3)) h2 fun t30 =>
    boolV t30 fun b5 => bcase b5 (
    Reads P (binS .neq 3 true t2 (.int .i64 4)) h2 fun t34 =>
    J1 t34 h2) (
    J1 (.bool false) h2)) (
    J1 (.bool false) h2))))
  (fun t36 h3 =>
  boolV t36 fun b6 => bcase b6 (
    Reads P (Instr.build 33 #[]) h3 fun t37 =>
    CallsH P 128 #[t16, (.int .i64 1), (.int .i64 0)] h3 (fun t39 h4 =>
    pStore P 33 t6 t37 h4 fun h5 =>
    pLoad P 33 t6 h5 fun r7 => R (.tuple #[r7, (.int .i64 0), t39]) h5) E) (
    CallsH P 129 #[t16] h3 (fun t42 h6 =>
  Reads P (Instr.extract t42 0) h6 fun t43 =>
  Reads P (Instr.extract t42 1) h6 fun t44 =>
  pAlloc P 33 h6 fun t10 h7 =>
  pStore P 33 t10 t43 h7 fun h8 =>
  Reads P (binS .neq 26 true t44 .nilIface) h8 fun t46 =>
  boolV t46 fun b8 => bcase b8 (
    Reads P (Instr.build 33 #[]) h8 fun t47 =>
    pStore P 33 t6 t47 h8 fun h9 =>
    pLoad P 33 t6 h9 fun r9 => R (.tuple #[r9, (.int .i64 0), t44]) h9) (
    Stable h8 fun S10 =>
  pLoadS P 33 t10 S10 fun t49 =>
  ReadsS P (nilS t16) S10 fun t51 =>
  ReadsS P (Instr.fieldAt 177 t51 1) S10 fun t52 =>
  pLoadS P 3 t52 S10 fun t53 =>
  (pStore P 33 t6 t49 h8 fun h10 =>
  S10 h10 ∧ (pLoad P 33 t6 h10 fun r11 => R (.tuple #[r11, t53, .nilIface]) h10)) ∧ True)) E))
theorem C119 {E : List PanicEntry → Heap → Prop} {t0 t1 t2 : Value} {h : Heap} {R : Value → Heap → Prop} (hs : S119 Tryz.prog E t0 t1 t2 h R) : CallsH Tryz.prog 119 #[t0, t1, t2] h R E :=
  calls_of_vc H119 Tryz.mixed Tryz.func119 rfl (by kernel_rfl) (by kernel_rfl) (Eq.mp (show S119 Tryz.prog E t0 t1 t2 h R = vcFun Tryz.prog H119 E Tryz.f119.results.toList _ [t0, t1, t2] h R from by kernel_rfl) hs)

def H120 : Hints := { r := fun _ => none, s := fun _ => none, l := fun i => match i with | 3 => some [7] | _ => none, d := fun _ => none }
def S120 (P : Program) (E : List PanicEntry → Heap → Prop) (t0 : Value) (h : Heap) (R : Value → Heap → Prop) : Prop :=
  pAlloc P 33 h fun t2 h1 =>
  pAlloc P 33 h1 fun t3 h2 =>
  Reads P (builtinS .len #[9] 3 #[t0]) h2 fun t6 =>
  Loop1 (.int .i64 0) h2 (fun C1 t7 h3 =>
    Reads P (binS .lss 3 false t7 t6) h3 fun t8 =>
    boolV t8 fun b2 => bcase b2 (
      Reads P (Instr.index 9 t0 t7) h3 fun t12 =>
    CallsH P 130 #[t3, t12] h3 (fun t13 h4 =>
    Reads P (binS .add 3 true t7 (.int .i64 1)) h4 fun t14 =>
    C1 t14 h4) E) (
      pLoad P 33 t3 h3 fun t15 =>
  pStore P 33 t2 t15 h3 fun h5 =>
  pLoad P 33 t2 h5 fun r3 => R r3 h5))
theorem C120 {E : List PanicEntry → Heap → Prop} {t0 : Value} {h : Heap} {R : Value → Heap → Prop} (hs : S120 Tryz.prog E t0 h R) : CallsH Tryz.prog 120 #[t0] h R E :=
  calls_of_vc H120 Tryz.mixed Tryz.func120 rfl (by kernel_rfl) (by kernel_rfl) (Eq.mp (show S120 Tryz.prog E t0 h R = vcFun Tryz.prog H120 E Tryz.f120.results.toList _ [t0] h R from by kernel_rfl) hs)

def H121 : Hints := { r := fun _ => none, s := fun i => match i with | 3 => some [] | 5 => some [] | _ => none, l := fun i => match i with | 4 => some [7, 8, 9] | _ => none, d := fun _ => none }
def S121 (P : Program) (E : List PanicEntry → Heap → Prop) (t0 t1 : Value) (h : Heap) (R : Value → Heap → Prop) : Prop :=
  Join0 (fun J1 =>
    Reads P (binS .lss 3 true t1 (.int .i64 2)) h fun t12 =>
    boolV t12 fun b2 => bcase b2 (
    R (.tuple #[(.int .i64 0), (.int .i64 0), (.bool false)]) h) (
    Reads P (binS .gtr 3 true t1 (.int .i64 16)) h fun t15 =>
    boolV t15 fun b3 => bcase b3 (
      R (.tuple #[(.int .i64 0), (.int .i64 0), (.bool false)]) h) (
      J1 h)))
  (fun h1 =>
  Loop3 (.int .i64 0) (.int .i64 0) (.bool false) h1 (fun C4 t7 t8 t9 h2 =>
    Join0 (fun J5 =>
      Reads P (builtinS .len #[29] 3 #[t0]) h2 fun t19 =>
      Reads P (binS .lss 3 false t8 t19) h2 fun t20 =>
      boolV t20 fun b6 => bcase b6 (
      Reads P (Instr.indexAt 29 t0 t8) h2 fun t24 =>
      pLoad P 5 t24 h2 fun t25 =>
      CallsH P 131 #[t25] h2 (fun t26 h3 =>
      Reads P (binS .lss 3 false t26 t1) h3 fun t28 =>
      boolV t28 fun b7 => bcase b7 (
        J5 h3) (
        R (.tuple #[t7, t8, t9]) h3)) E) (
      R (.tuple #[t7, t8, t9]) h2))
    (fun h4 =>
    Reads P (Instr.indexAt 29 t0 t8) h4 fun t32 =>
    pLoad P 5 t32 h4 fun t33 =>
    CallsH P 131 #[t33] h4 (fun t34 h5 =>
    boolV t9 fun b8 => bcase b8 (
    Reads P (binS .add 3 true t8 (.int .i64 1)) h5 fun t50 =>
    C4 (.int .i64 9223372036854775807) t50 (.bool true) h5) (
    Reads P (binS .sub 2 true (.int .i64 9223372036854775807) t34) h5 fun t39 =>
    Reads P (binS .quo 2 false t39 t1) h5 fun t41 =>
    Reads P (binS .gtr 2 false t7 t41) h5 fun t42 =>
    boolV t42 fun b9 => bcase b9 (
      Reads P (binS .add 3 true t8 (.int .i64 1)) h5 fun t50_2 =>
    C4 (.int .i64 9223372036854775807) t50_2 (.bool true) h5) (
      Reads P (binS .mul 2 false t7 t1) h5 fun t46 =>
      Reads P (binS .add 2 false t46 t34) h5 fun t48 =>
      Reads P (binS .add 3 true t8 (.int .i64 1)) h5 fun t50_3 =>
    C4 t48 t50_3 t9 h5))) E)))
theorem C121 {E : List PanicEntry → Heap → Prop} {t0 t1 : Value} {h : Heap} {R : Value → Heap → Prop} (hs : S121 Tryz.prog E t0 t1 h R) : CallsH Tryz.prog 121 #[t0, t1] h R E :=
  calls_of_vc H121 Tryz.mixed Tryz.func121 rfl (by kernel_rfl) (by kernel_rfl) (Eq.mp (show S121 Tryz.prog E t0 t1 h R = vcFun Tryz.prog H121 E Tryz.f121.results.toList _ [t0, t1] h R from by kernel_rfl) hs)

def H128 : Hints := { r := fun _ => none, s := fun _ => none, l := fun _ => none, d := fun i => match i with | 1 => some (.cut 2 (.take 0 (.take 2 (.take 4 (.take 5 (.take 6 (.take 7 (.act 1 (.act 3 (.cut 0 (.act 8 (.cut 1 (.take 9 .done)) .stop)) .stop) .stop)))))))) | _ => none }
def S128 (P : Program) (E : List PanicEntry → Heap → Prop) (t0 t1 t2 : Value) (h : Heap) (R : Value → Heap → Prop) : Prop :=
  Stable h fun S1 =>
  ReadsS P (nilS t0) S1 fun t12 =>
  ReadsS P (Instr.fieldAt 177 t12 2) S1 fun t13 =>
  pLoadS P 3 t13 S1 fun t14 =>
  (CallsH P 27 #[t1] h (fun t8 h1 =>
  S1 h1 ∧ ((CallsH P 26 #[t8, t2] h1 (fun t10 h2 =>
  S1 h2 ∧ ((CallsH P 25 #[t10, t14] h2 (fun t15 h3 =>
  True ∧ (R t15 h3)) E) ∧ True)) E) ∧ True)) E) ∧ True
theorem C128 {E : List PanicEntry → Heap → Prop} {t0 t1 t2 : Value} {h : Heap} {R : Value → Heap → Prop} (hs : S128 Tryz.prog E t0 t1 t2 h R) : CallsH Tryz.prog 128 #[t0, t1, t2] h R E :=
  calls_of_vc H128 Tryz.mixed Tryz.func128 rfl (by kernel_rfl) (by kernel_rfl) (Eq.mp (show S128 Tryz.prog E t0 t1 t2 h R = vcFun Tryz.prog H128 E Tryz.f128.results.toList _ [t0, t1, t2] h R from by kernel_rfl) hs)

def H129 : Hints := { r := fun _ => none, s := fun i => match i with | 2 => some [4] | 4 => some [] | 10 => some [] | _ => none, l := fun i => match i with | 7 => some [6] | _ => none, d := fun i => match i with | 7 => some (.cut 1 (.take 0 (.take 1 (.take 2 (.take 3 (.take 4 (.take 5 (.take 6 (.take 7 (.take 8 (.take 9 .done))))))))))) | 8 => some (.cut 2 (.take 0 (.take 1 (.take 2 (.take 3 (.take 4 (.take 5 (.take 6 (.act 7 (.cut 0 (.act 8 (.cut 1 (.take 9 .done)) .stop)) .stop))))))))) | _ => none }
def S129 (P : Program) (E : List PanicEntry → Heap → Prop) (t0 : Value) (h : Heap) (R : Value → Heap → Prop) : Prop :=
  pAlloc P 33 h fun t2 h1 =>
  Join1 (fun J1 =>
    CallsH P 135 #[t0, (.int .i64 0), (.int .u8 94)] h1 (fun t11 h2 =>
    boolV t11 fun b2 => bcase b2 (
    (undef = undef ∧ ((undef = undef ∧ ((undef = undef ∧ ((undef = undef ∧ ((undef = undef ∧ (J1 (.bool true) h2))))))))))) (
    CallsH P 135 #[t0, (.int .i64 0), (.int .u8 33)] h2 (fun t14 h3 =>
    boolV t14 fun b3 => bcase b3 (
    Reads P (nilS t0) h3 fun t17 =>
    Reads P (Instr.fieldAt 177 t17 2) h3 fun t18 =>
    pLoad P 3 t18 h3 fun t19 =>
    Reads P (binS .eql 3 true t19 (.int .i64 2)) h3 fun t20 =>
    J1 t20 h3) (
    J1 (.bool false) h3)) E)) E)
  (fun t4 h4 =>
  Join0 (fun J4 =>
    boolV t4 fun b5 => bcase b5 (
      Reads P (nilS t0) h4 fun t25 =>
      Reads P (Instr.fieldAt 177 t25 1) h4 fun t26 =>
      pLoad P 3 t26 h4 fun t27 =>
      Reads P (binS .add 3 true t27 (.int .i64 1)) h4 fun t28 =>
      Reads P (nilS t0) h4 fun t29 =>
      Reads P (Instr.fieldAt 177 t29 1) h4 fun t30 =>
      pStore P 3 t30 t28 h4 fun h5 =>
      J4 h5) (
      J4 h4))
  (fun h6 =>
  pAlloc P 33 h6 fun t5 h7 =>
  Loop1 (.bool true) h7 (fun C6 t6 h8 =>
    Reads P (nilS t0) h8 fun t32 =>
    Reads P (Instr.fieldAt 177 t32 1) h8 fun t33 =>
    pLoad P 3 t33 h8 fun t34 =>
    Reads P (nilS t0) h8 fun t36 =>
    Reads P (Instr.fieldAt 177 t36 0) h8 fun t37 =>
    pLoad P 29 t37 h8 fun t38 =>
    Reads P (builtinS .len #[29] 3 #[t38]) h8 fun t39 =>
    Reads P (binS .geq 3 false t34 t39) h8 fun t40 =>
    boolV t40 fun b7 => bcase b7 (
      Stable h8 fun S8 =>
      pLoadS P 33 t5 S8 fun t41 =>
      ReadsS P (nilS t0) S8 fun t44 =>
      ReadsS P (Instr.fieldAt 177 t44 0) S8 fun t45 =>
      pLoadS P 29 t45 S8 fun t46 =>
      ReadsS P (builtinS .len #[29] 3 #[t46]) S8 fun t47 =>
      (CallsH P 128 #[t0, (.int .i64 8), t47] h8 (fun t48 h9 =>
      S8 h9 ∧ ((pStore P 33 t2 t41 h9 fun h10 =>
      True ∧ (pLoad P 33 t2 h10 fun r9 => R (.tuple #[r9, t48]) h10)) ∧ True)) E) ∧ True) (
      Join0 (fun J10 =>
      Reads P (Op.unary .not t6) h8 fun t50 =>
      boolV t50 fun b11 => bcase b11 (
      CallsH P 135 #[t0, (.int .i64 0), (.int .u8 93)] h8 (fun t53 h11 =>
      boolV t53 fun b12 => bcase b12 (
        Reads P (nilS t0) h11 fun t79 =>
  Reads P (Instr.fieldAt 177 t79 1) h11 fun t80 =>
  pLoad P 3 t80 h11 fun t81 =>
  Reads P (binS .add 3 true t81 (.int .i64 1)) h11 fun t82 =>
  Reads P (nilS t0) h11 fun t83 =>
  Reads P (Instr.fieldAt 177 t83 1) h11 fun t84 =>
  pStore P 3 t84 t82 h11 fun h12 =>
  boolV t4 fun b13 => bcase b13 (
    pLoad P 33 t5 h12 fun t86 =>
    CallsH P 96 #[t86] h12 (fun t87 h13 =>
    pStore P 33 t5 t87 h13 fun h14 =>
    pLoad P 33 t5 h14 fun t88 =>
  pStore P 33 t2 t88 h14 fun h15 =>
  pLoad P 33 t2 h15 fun r14 => R (.tuple #[r14, .nilIface]) h15) E) (
    pLoad P 33 t5 h12 fun t88_2 =>
  pStore P 33 t2 t88_2 h12 fun h16 =>
  pLoad P 33 t2 h16 fun r15 => R (.tuple #[r15, .nilIface]) h16)) (
        J10 h11)) E) (
      J10 h8))
    (fun h17 =>
    CallsH P 136 #[t0] h17 (fun t57 h18 =>
    Reads P (Instr.extract t57 0) h18 fun t58 =>
    Reads P (Instr.extract t57 1) h18 fun t59 =>
    pAlloc P 187 h18 fun t7 h19 =>
    pStore P 187 t7 t58 h19 fun h20 =>
    Reads P (binS .neq 26 true t59 .nilIface) h20 fun t61 =>
    boolV t61 fun b16 => bcase b16 (
      pLoad P 33 t5 h20 fun t62 =>
      pStore P 33 t2 t62 h20 fun h21 =>
      pLoad P 33 t2 h21 fun r17 => R (.tuple #[r17, t59]) h21) (
      pLoad P 187 t7 h20 fun t66 =>
    CallsH P 137 #[t0, t66] h20 (fun t67 h22 =>
    Reads P (Instr.extract t67 0) h22 fun t68 =>
    Reads P (Instr.extract t67 1) h22 fun t69 =>
    pAlloc P 33 h22 fun t9 h23 =>
    pStore P 33 t9 t68 h23 fun h24 =>
    Reads P (binS .neq 26 true t69 .nilIface) h24 fun t71 =>
    boolV t71 fun b18 => bcase b18 (
      pLoad P 33 t5 h24 fun t72 =>
      pStore P 33 t2 t72 h24 fun h25 =>
      pLoad P 33 t2 h25 fun r19 => R (.tuple #[r19, t69]) h25) (
      pLoad P 33 t5 h24 fun t74 =>
    pLoad P 33 t9 h24 fun t75 =>
    Runs P (vS (Instr.buildSlice 195 2 #[(0, t74), (1, t75)])) h24 (fun t76 h26 =>
    CallsH P 138 #[t76] h26 (fun t77 h27 =>
    pStore P 33 t5 t77 h27 fun h28 =>
    C6 (.bool false) h28) E) E)) E)) E)))))
theorem C129 {E : List PanicEntry → Heap → Prop} {t0 : Value} {h : Heap} {R : Value → Heap → Prop} (hs : S129 Tryz.prog E t0 h R) : CallsH Tryz.prog 129 #[t0] h R E :=
  calls_of_vc H129 Tryz.mixed Tryz.func129 rfl (by kernel_rfl) (by kernel_rfl) (Eq.mp (show S129 Tryz.prog E t0 h R = vcFun Tryz.prog H129 E Tryz.f129.results.toList _ [t0] h R from by kernel_rfl) hs)

def H130 : Hints := { r := fun _ => none, s := fun _ => none, l := fun _ => none, d := fun i => match i with | 0 => some (.cut 1 (.take 0 (.take 1 (.take 2 (.take 3 (.take 4 (.take 5 (.take 6 (.take 7 (.take 8 (.take 9 (.take 10 (.take 11 (.cut 0 (.act 12 .done .stop))))))))))))))) | _ => none }
def S130 (P : Program) (E : List PanicEntry → Heap → Prop) (t0 t1 : Value) (h : Heap) (R : Value → Heap → Prop) : Prop :=
  Reads P (binS .quo 5 true t1 (.int .u8 64)) h fun t6 =>
  Reads P (nilS t0) h fun t7 =>
  Reads P (Instr.indexAt 33 t7 t6) h fun t8 =>
  pLoad P 31 t8 h fun t9 =>
  Reads P (binS .rem 5 true t1 (.int .u8 64)) h fun t11 =>
  Reads P (binS .shl 31 true (.int .u64 1) t11) h fun t12 =>
  Reads P (binS .or 31 false t9 t12) h fun t13 =>
  Reads P (nilS t0) h fun t14 =>
  Reads P (Instr.indexAt 33 t14 t6) h fun t15 =>
  (pStore P 31 t15 t13 h fun h1 =>
  True ∧ (R (.tuple #[]) h1)) ∧ True
theorem C130 {E : List PanicEntry → Heap → Prop} {t0 t1 : Value} {h : Heap} {R : Value → Heap → Prop} (hs : S130 Tryz.prog E t0 t1 h R) : CallsH Tryz.prog 130 #[t0, t1] h R E :=
  calls_of_vc H130 Tryz.mixed Tryz.func130 rfl (by kernel_rfl) (by kernel_rfl) (Eq.mp (show S130 Tryz.prog E t0 t1 h R = vcFun Tryz.prog H130 E Tryz.f130.results.toList _ [t0, t1] h R from by kernel_rfl) hs)

def H131 : Hints := { r := fun _ => none, s := fun i => match i with | 2 => some [] | 3 => some [] | 5 => some [0] | _ => none, l := fun _ => none, d := fun _ => none }
def S131 (P : Program) (E : List PanicEntry → Heap → Prop) (t0 : Value) (h : Heap) (R : Value → Heap → Prop) : Prop :=
  Join1 (fun J1 =>
    Join0 (fun J2 =>
      Reads P (binS .geq 5 true t0 (.int .u8 65)) h fun t5 =>
      boolV t5 fun b3 => bcase b3 (
      Reads P (binS .leq 5 true t0 (.int .u8 70)) h fun t8 =>
      boolV t8 fun b4 => bcase b4 (
        Reads P (binS .add 5 true t0 (.int .u8 32)) h fun t25 =>
    J1 t25 h) (
        J2 h)) (
      J2 h))
    (fun h1 =>
    Join0 (fun J5 =>
      Reads P (binS .geq 5 true t0 (.int .u8 97)) h1 fun t12 =>
      boolV t12 fun b6 => bcase b6 (
      Reads P (binS .leq 5 true t0 (.int .u8 102)) h1 fun t15 =>
      boolV t15 fun b7 => bcase b7 (
        J1 t0 h1) (
        J5 h1)) (
      J5 h1))
    (fun h2 =>
    Reads P (binS .geq 5 true t0 (.int .u8 48)) h2 fun t19 =>
    boolV t19 fun b8 => bcase b8 (
    Reads P (binS .leq 5 true t0 (.int .u8 57)) h2 fun t22 =>
    boolV t22 fun b9 => bcase b9 (
      Reads P (binS .sub 5 true t0 (.int .u8 48)) h2 fun t31 =>
  Reads P (convert 5 3 t31) h2 fun t32 =>
  R t32 h2) (
      R (.int .i64 16) h2)) (
    R (.int .i64 16) h2))))
  (fun t0_2 h3 =>
  Reads P (binS .sub 5 true t0_2 (.int .u8 97)) h3 fun t27 =>
  Reads P (convert 5 3 t27) h3 fun t28 =>
  Reads P (binS .add 3 true t28 (.int .i64 10)) h3 fun t29 =>
  R t29 h3)
theorem C131 {E : List PanicEntry → Heap → Prop} {t0 : Value} {h : Heap} {R : Value → Heap → Prop} (hs : S131 Tryz.prog E t0 h R) : CallsH Tryz.prog 131 #[t0] h R E :=
  calls_of_vc H131 Tryz.mixed Tryz.func131 rfl (by kernel_rfl) (by kernel_rfl) (Eq.mp (show S131 Tryz.prog E t0 h R = vcFun Tryz.prog H131 E Tryz.f131.results.toList _ [t0] h R from by kernel_rfl) hs)

def H135 : Hints := { r := fun _ => none, s := fun _ => none, l := fun _ => none, d := fun i => match i with | 1 => some (.cut 1 (.take 0 (.take 1 (.take 2 (.take 3 (.take 4 (.take 5 (.take 6 (.take 7 (.take 8 (.take 9 (.take 10 (.take 11 (.take 12 (.take 13 (.take 14 (.take 15 (.take 16 (.take 17 (.take 18 (.take 19 (.take 20 (.take 21 (.take 22 (.take 23 (.take 24 (.take 25 (.take 26 (.take 27 (.take 28 .done)))))))))))))))))))))))))))))) | _ => none }
def S135 (P : Program) (E : List PanicEntry → Heap → Prop) (t0 t1 t2 : Value) (h : Heap) (R : Value → Heap → Prop) : Prop :=
  Reads P (nilS t0) h fun t8 =>
  Reads P (Instr.fieldAt 177 t8 1) h fun t9 =>
  pLoad P 3 t9 h fun t10 =>
  Reads P (binS .add 3 false t10 t1) h fun t12 =>
  Reads P (nilS t0) h fun t14 =>
  Reads P (Instr.fieldAt 177 t14 0) h fun t15 =>
  pLoad P 29 t15 h fun t16 =>
  Reads P (builtinS .len #[29] 3 #[t16]) h fun t17 =>
  Reads P (binS .lss 3 false t12 t17) h fun t18 =>
  boolV t18 fun b1 => bcase b1 (
  Reads P (nilS t0) h fun t21 =>
  Reads P (Instr.fieldAt 177 t21 0) h fun t22 =>
  pLoad P 29 t22 h fun t23 =>
  Reads P (nilS t0) h fun t25 =>
  Reads P (Instr.fieldAt 177 t25 1) h fun t26 =>
  pLoad P 3 t26 h fun t27 =>
  Reads P (binS .add 3 false t27 t1) h fun t29 =>
  Reads P (Instr.indexAt 29 t23 t29) h fun t30 =>
  pLoad P 5 t30 h fun t31 =>
  Reads P (binS .eql 5 false t31 t2) h fun t33 =>
  R t33 h) (
  R (.bool false) h)
theorem C135 {E : List PanicEntry → Heap → Prop} {t0 t1 t2 : Value} {h : Heap} {R : Value → Heap → Prop} (hs : S135 Tryz.prog E t0 t1 t2 h R) : CallsH Tryz.prog 135 #[t0, t1, t2] h R E :=
  calls_of_vc H135 Tryz.mixed Tryz.func135 rfl (by kernel_rfl) (by kernel_rfl) (Eq.mp (show S135 Tryz.prog E t0 t1 t2 h R = vcFun Tryz.prog H135 E Tryz.f135.results.toList _ [t0, t1, t2] h R from by kernel_rfl) hs)

def H136 : Hints := { r := fun _ => none, s := fun i => match i with | 3 => some [15] | 5 => some [33] | 8 => some [66] | 12 => some [88] | 15 => some [] | _ => none, l := fun _ => none, d := fun i => match i with | 3 => some (.cut 2 (.take 0 (.take 1 (.take 2 (.take 3 (.take 4 (.take 5 (.act 6 (.cut 0 (.act 7 (.cut 1 (.take 8 .done)) .stop)) .stop)))))))) | 5 => some (.cut 1 (.take 0 (.take 1 (.take 2 (.take 3 (.take 4 (.take 5 (.take 6 (.take 7 (.take 8 (.take 9 (.take 10 (.cut 0 (.act 11 (.cut 1 (.take 12 (.take 13 (.take 14 (.take 15 (.take 16 (.take 17 (.take 18 .done)))))))) .stop)))))))))))))) | 8 => some (.cut 2 (.take 0 (.take 1 (.take 2 (.take 3 (.take 4 (.take 5 (.act 6 (.cut 0 (.act 7 (.cut 1 (.take 8 .done)) .stop)) .stop)))))))) | 13 => some (.cut 1 (.take 0 (.take 1 (.take 2 (.take 3 (.take 4 (.take 5 (.take 6 (.take 7 (.take 8 (.take 9 .done))))))))))) | 14 => some (.cut 2 (.take 0 (.take 1 (.take 2 (.take 3 (.take 4 (.take 5 (.take 6 (.act 7 (.cut 0 (.act 8 (.cut 1 (.take 9 .done)) .stop)) .stop))))))))) | 15 => some (.cut 1 (.take 0 (.take 1 (.take 2 (.take 3 (.take 4 (.take 5 (.take 6 (.take 7 (.take 8 (.take 9 (.take 10 (.cut 0 (.act 11 .done .stop)))))))))))))) | 16 => some (.cut 1 (.take 0 (.take 1 (.take 2 (.take 3 (.take 4 (.take 5 (.take 6 (.take 7 (.take 8 (.take 9 (.take 10 (.take 11 (.take 12 (.take 13 (.take 14 (.cut 0 (.act 15 (.cut 1 (.take 16 (.cut 0 (.act 17 .done .stop)))) .stop)))))))))))))))))) | _ => none }
def S136 (P : Program) (E : List PanicEntry → Heap → Prop) (t0 : Value) (h : Heap) (R : Value → Heap → Prop) : Prop :=
  pAlloc P 187 h fun t2 h1 =>
  Reads P (nilS t0) h1 fun t11 =>
  Reads P (Instr.fieldAt 177 t11 1) h1 fun t12 =>
  pLoad P 3 t12 h1 fun t13 =>
  Reads P (Instr.build 187 #[(0, (.bool true)), (3, t13)]) h1 fun t14 =>
  pAlloc P 187 h1 fun t4 h2 =>
  pStore P 187 t4 t14 h2 fun h3 =>
  Join0 (fun J1 =>
    Join1 (fun J2 =>
      CallsH P 135 #[t0, (.int .i64 0), (.int .u8 91)] h3 (fun t17 h4 =>
      boolV t17 fun b3 => bcase b3 (
      CallsH P 135 #[t0, (.int .i64 1), (.int .u8 46)] h4 (fun t20 h5 =>
      boolV t20 fun b4 => bcase b4 (
      J2 (.bool true) h5) (
      CallsH P 135 #[t0, (.int .i64 1), (.int .u8 61)] h5 (fun t23 h6 =>
      J2 t23 h6) E)) E) (
      (undef = undef ∧ ((undef = undef ∧ (J2 (.bool false) h4)))))) E)
    (fun t15 h7 =>
    boolV t15 fun b5 => bcase b5 (
      Stable h7 fun S6 =>
      pLoadS P 187 t4 S6 fun t26 =>
      ReadsS P (nilS t0) S6 fun t29 =>
      ReadsS P (Instr.fieldAt 177 t29 1) S6 fun t30 =>
      pLoadS P 3 t30 S6 fun t31 =>
      (CallsH P 128 #[t0, (.int .i64 8), t31] h7 (fun t32 h8 =>
      S6 h8 ∧ ((pStore P 187 t2 t26 h8 fun h9 =>
      True ∧ (pLoad P 187 t2 h9 fun r7 => R (.tuple #[r7, t32]) h9)) ∧ True)) E) ∧ True) (
      Join1 (fun J8 =>
        CallsH P 135 #[t0, (.int .i64 0), (.int .u8 91)] h7 (fun t35 h10 =>
        boolV t35 fun b9 => bcase b9 (
        CallsH P 135 #[t0, (.int .i64 1), (.int .u8 58)] h10 (fun t38 h11 =>
        J8 t38 h11) E) (
        J8 (.bool false) h10)) E)
      (fun t33 h12 =>
      boolV t33 fun b10 => bcase b10 (
        Reads P (nilS t0) h12 fun t42 =>
        Reads P (Instr.fieldAt 177 t42 0) h12 fun t43 =>
        pLoad P 29 t43 h12 fun t44 =>
        Reads P (nilS t0) h12 fun t46 =>
        Reads P (Instr.fieldAt 177 t46 1) h12 fun t47 =>
        pLoad P 3 t47 h12 fun t48 =>
        Reads P (binS .add 3 true t48 (.int .i64 2)) h12 fun t49 =>
        Reads P (Instr.sliceAt 29 t44 (some t49) none none) h12 fun t50 =>
        Reads P (convert 29 9 t50) h12 fun t51 =>
        (CallsH P 139 #[t51, (str [58, 93])] h12 (fun t52 h13 =>
        True ∧ (Reads P (Instr.extract t52 0) h13 fun t53 =>
        Reads P (Instr.extract t52 1) h13 fun t54 =>
        Reads P (Instr.extract t52 2) h13 fun t55 =>
        CallsH P 140 #[t53] h13 (fun t58 h14 =>
        Reads P (Instr.extract t58 0) h14 fun t59 =>
        Reads P (Instr.extract t58 1) h14 fun t60 =>
        pAlloc P 33 h14 fun t8 h15 =>
        pStore P 33 t8 t59 h15 fun h16 =>
        Join1 (fun J11 =>
          Reads P (Op.unary .not t55) h16 fun t62 =>
          boolV t62 fun b12 => bcase b12 (
          J11 (.bool true) h16) (
          Reads P (Op.unary .not t60) h16 fun t65 =>
          J11 t65 h16))
        (fun t66 h17 =>
        boolV t66 fun b13 => bcase b13 (
          Stable h17 fun S14 =>
          pLoadS P 187 t4 S14 fun t67 =>
          ReadsS P (nilS t0) S14 fun t70 =>
          ReadsS P (Instr.fieldAt 177 t70 1) S14 fun t71 =>
          pLoadS P 3 t71 S14 fun t72 =>
          (CallsH P 128 #[t0, (.int .i64 8), t72] h17 (fun t73 h18 =>
          S14 h18 ∧ ((pStore P 187 t2 t67 h18 fun h19 =>
          True ∧ (pLoad P 187 t2 h19 fun r15 => R (.tuple #[r15, t73]) h19)) ∧ True)) E) ∧ True) (
          Reads P (nilS t0) h17 fun t75 =>
        Reads P (Instr.fieldAt 177 t75 1) h17 fun t76 =>
        pLoad P 3 t76 h17 fun t77 =>
        Reads P (builtinS .len #[9] 3 #[t53]) h17 fun t79 =>
        Reads P (binS .add 3 true t79 (.int .i64 4)) h17 fun t80 =>
        Reads P (binS .add 3 false t77 t80) h17 fun t81 =>
        Reads P (nilS t0) h17 fun t82 =>
        Reads P (Instr.fieldAt 177 t82 1) h17 fun t83 =>
        pStore P 3 t83 t81 h17 fun h20 =>
        pLoad P 33 t8 h20 fun t84 =>
        Reads P (Instr.fieldAt 187 t4 3) h20 fun t85 =>
        pLoad P 3 t85 h20 fun t86 =>
        Reads P (Instr.build 187 #[(2, t84), (3, t86)]) h20 fun t87 =>
        pStore P 187 t2 t87 h20 fun h21 =>
        pLoad P 187 t2 h21 fun r16 => R (.tuple #[r16, .nilIface]) h21))) E)) E) ∧ True) (
        Join1 (fun J17 =>
          CallsH P 135 #[t0, (.int .i64 0), (.int .u8 92)] h12 (fun t90 h22 =>
          boolV t90 fun b18 => bcase b18 (
          Reads P (nilS t0) h22 fun t93 =>
          Reads P (Instr.fieldAt 177 t93 2) h22 fun t94 =>
          pLoad P 3 t94 h22 fun t95 =>
          Reads P (binS .eql 3 true t95 (.int .i64 2)) h22 fun t96 =>
          J17 t96 h22) (
          J17 (.bool false) h22)) E)
        (fun t88 h23 =>
        boolV t88 fun b19 => bcase b19 (
          Reads P (nilS t0) h23 fun t99 =>
          Reads P (Instr.fieldAt 177 t99 1) h23 fun t100 =>
          pLoad P 3 t100 h23 fun t101 =>
          Reads P (binS .add 3 true t101 (.int .i64 1)) h23 fun t102 =>
          Reads P (nilS t0) h23 fun t103 =>
          Reads P (Instr.fieldAt 177 t103 1) h23 fun t104 =>
          pStore P 3 t104 t102 h23 fun h24 =>
          Reads P (nilS t0) h24 fun t106 =>
          Reads P (Instr.fieldAt 177 t106 1) h24 fun t107 =>
          pLoad P 3 t107 h24 fun t108 =>
          Reads P (nilS t0) h24 fun t110 =>
          Reads P (Instr.fieldAt 177 t110 0) h24 fun t111 =>
          pLoad P 29 t111 h24 fun t112 =>
          Reads P (builtinS .len #[29] 3 #[t112]) h24 fun t113 =>
          Reads P (binS .geq 3 false t108 t113) h24 fun t114 =>
          boolV t114 fun b20 => bcase b20 (
            Stable h24 fun S21 =>
            pLoadS P 187 t4 S21 fun t115 =>
            ReadsS P (nilS t0) S21 fun t118 =>
            ReadsS P (Instr.fieldAt 177 t118 0) S21 fun t119 =>
            pLoadS P 29 t119 S21 fun t120 =>
            ReadsS P (builtinS .len #[29] 3 #[t120]) S21 fun t121 =>
            (CallsH P 128 #[t0, (.int .i64 8), t121] h24 (fun t122 h25 =>
            S21 h25 ∧ ((pStore P 187 t2 t115 h25 fun h26 =>
            True ∧ (pLoad P 187 t2 h26 fun r22 => R (.tuple #[r22, t122]) h26)) ∧ True)) E) ∧ True) (
            J1 h24)) (
          J1 h23)))))))
  (fun h27 =>
  Reads P (nilS t0) h27 fun t124 =>
  Reads P (Instr.fieldAt 177 t124 0) h27 fun t125 =>
  pLoad P 29 t125 h27 fun t126 =>
  Reads P (nilS t0) h27 fun t128 =>
  Reads P (Instr.fieldAt 177 t128 1) h27 fun t129 =>
  pLoad P 3 t129 h27 fun t130 =>
  Reads P (Instr.indexAt 29 t126 t130) h27 fun t131 =>
  pLoad P 5 t131 h27 fun t132 =>
  Reads P (Instr.fieldAt 187 t4 1) h27 fun t133 =>
  (pStore P 5 t133 t132 h27 fun h28 =>
  True ∧ (Reads P (nilS t0) h28 fun t135 =>
  Reads P (Instr.fieldAt 177 t135 0) h28 fun t136 =>
  pLoad P 29 t136 h28 fun t137 =>
  Reads P (nilS t0) h28 fun t139 =>
  Reads P (Instr.fieldAt 177 t139 1) h28 fun t140 =>
  pLoad P 3 t140 h28 fun t141 =>
  Reads P (nilS t0) h28 fun t143 =>
  Reads P (Instr.fieldAt 177 t143 1) h28 fun t144 =>
  pLoad P 3 t144 h28 fun t145 =>
  Reads P (binS .add 3 true t145 (.int .i64 1)) h28 fun t146 =>
  Reads P (Instr.sliceAt 29 t137 (some t141) (some t146) none) h28 fun t147 =>
  Reads P (convert 29 9 t147) h28 fun t148 =>
  (CallsH P 120 #[t148] h28 (fun t149 h29 =>
  True ∧ (Reads P (Instr.fieldAt 187 t4 2) h29 fun t150 =>
  (pStore P 33 t150 t149 h29 fun h30 =>
  True ∧ (Reads P (nilS t0) h30 fun t152 =>
  Reads P (Instr.fieldAt 177 t152 1) h30 fun t153 =>
  pLoad P 3 t153 h30 fun t154 =>
  Reads P (binS .add 3 true t154 (.int .i64 1)) h30 fun t155 =>
  Reads P (nilS t0) h30 fun t156 =>
  Reads P (Instr.fieldAt 177 t156 1) h30 fun t157 =>
  pStore P 3 t157 t155 h30 fun h31 =>
  pLoad P 187 t4 h31 fun t158 =>
  pStore P 187 t2 t158 h31 fun h32 =>
  pLoad P 187 t2 h32 fun r23 => R (.tuple #[r23, .nilIface]) h32)) ∧ True)) E) ∧ True)) ∧ True)
theorem C136 {E : List PanicEntry → Heap → Prop} {t0 : Value} {h : Heap} {R : Value → Heap → Prop} (hs : S136 Tryz.prog E t0 h R) : CallsH Tryz.prog 136 #[t0] h R E :=
  calls_of_vc H136 Tryz.mixed Tryz.func136 rfl (by kernel_rfl) (by kernel_rfl) (Eq.mp (show S136 Tryz.prog E t0 h R = vcFun Tryz.prog H136 E Tryz.f136.results.toList _ [t0] h R from by kernel_rfl) hs)

def H137 : Hints := { r := fun _ => none, s := fun i => match i with | 2 => some [32] | _ => none, l := fun _ => none, d := fun i => match i with | 1 => some (.cut 1 (.take 0 (.take 1 (.take 2 (.take 3 (.take 4 (.cut 0 (.act 5 (.cut 1 (.take 6 (.take 7 (.take 8 (.take 9 (.cut 0 (.act 10 (.cut 1 (.take 11 (.take 12 (.take 13 (.take 14 (.take 15 (.take 16 (.take 17 (.take 18 (.take 19 (.take 20 (.take 21 (.take 22 (.take 23 (.take 24 .done))))))))))))))) .stop))))))) .stop)))))))) | 8 => some (.cut 2 (.take 0 (.take 1 (.take 2 (.take 3 (.take 4 (.act 5 (.cut 0 (.act 6 (.cut 1 (.take 7 .done)) .stop)) .stop))))))) | 10 => some (.cut 2 (.take 0 (.take 1 (.take 2 (.take 3 (.take 4 (.act 5 (.cut 0 (.act 6 (.cut 1 (.take 7 .done)) .stop)) .stop))))))) | _ => none }
def S137 (P : Program) (E : List PanicEntry → Heap → Prop) (t0 t1 : Value) (h : Heap) (R : Value → Heap → Prop) : Prop :=
  pNew 187 t1 h fun t3 h1 =>
  pAlloc P 33 h1 fun t4 h2 =>
  Join1 (fun J1 =>
    Reads P (Instr.fieldAt 187 t3 0) h2 fun t8 =>
    pLoad P 4 t8 h2 fun t9 =>
    Reads P (Op.unary .not t9) h2 fun t10 =>
    boolV t10 fun b2 => bcase b2 (
    ((J1 (.bool true) h2) ∧ True) ∧ True) (
    (CallsH P 135 #[t0, (.int .i64 0), (.int .u8 45)] h2 (fun t13 h3 =>
    True ∧ (Reads P (Op.unary .not t13) h3 fun t14 =>
    boolV t14 fun b3 => bcase b3 (
    (J1 (.bool true) h3) ∧ True) (
    (CallsH P 135 #[t0, (.int .i64 1), (.int .u8 93)] h3 (fun t18 h4 =>
    True ∧ (boolV t18 fun b4 => bcase b4 (
    J1 (.bool true) h4) (
    Reads P (nilS t0) h4 fun t22 =>
    Reads P (Instr.fieldAt 177 t22 1) h4 fun t23 =>
    pLoad P 3 t23 h4 fun t24 =>
    Reads P (binS .add 3 true t24 (.int .i64 1)) h4 fun t25 =>
    Reads P (nilS t0) h4 fun t27 =>
    Reads P (Instr.fieldAt 177 t27 0) h4 fun t28 =>
    pLoad P 29 t28 h4 fun t29 =>
    Reads P (builtinS .len #[29] 3 #[t29]) h4 fun t30 =>
    Reads P (binS .geq 3 false t25 t30) h4 fun t31 =>
    J1 t31 h4))) E) ∧ True))) E) ∧ True))
  (fun t32 h5 =>
  boolV t32 fun b5 => bcase b5 (
    Reads P (Instr.fieldAt 187 t3 2) h5 fun t33 =>
    pLoad P 33 t33 h5 fun t34 =>
    pStore P 33 t4 t34 h5 fun h6 =>
    pLoad P 33 t4 h6 fun r6 => R (.tuple #[r6, .nilIface]) h6) (
    Reads P (nilS t0) h5 fun t36 =>
  Reads P (Instr.fieldAt 177 t36 1) h5 fun t37 =>
  pLoad P 3 t37 h5 fun t38 =>
  Reads P (binS .add 3 true t38 (.int .i64 1)) h5 fun t39 =>
  Reads P (nilS t0) h5 fun t40 =>
  Reads P (Instr.fieldAt 177 t40 1) h5 fun t41 =>
  pStore P 3 t41 t39 h5 fun h7 =>
  CallsH P 136 #[t0] h7 (fun t44 h8 =>
  Reads P (Instr.extract t44 0) h8 fun t45 =>
  Reads P (Instr.extract t44 1) h8 fun t46 =>
  pAlloc P 187 h8 fun t6 h9 =>
  pStore P 187 t6 t45 h9 fun h10 =>
  Reads P (binS .neq 26 true t46 .nilIface) h10 fun t49 =>
  boolV t49 fun b7 => bcase b7 (
    Reads P (Instr.fieldAt 187 t3 2) h10 fun t50 =>
    pLoad P 33 t50 h10 fun t51 =>
    pStore P 33 t4 t51 h10 fun h11 =>
    pLoad P 33 t4 h11 fun r8 => R (.tuple #[r8, t46]) h11) (
    Reads P (Instr.fieldAt 187 t6 0) h10 fun t54 =>
    pLoad P 4 t54 h10 fun t55 =>
    Reads P (Op.unary .not t55) h10 fun t56 =>
    boolV t56 fun b9 => bcase b9 (
      Stable h10 fun S10 =>
      ReadsS P (Instr.fieldAt 187 t3 2) S10 fun t57 =>
      pLoadS P 33 t57 S10 fun t58 =>
      ReadsS P (Instr.fieldAt 187 t6 3) S10 fun t60 =>
      pLoadS P 3 t60 S10 fun t61 =>
      (CallsH P 128 #[t0, (.int .i64 8), t61] h10 (fun t62 h12 =>
      S10 h12 ∧ ((pStore P 33 t4 t58 h12 fun h13 =>
      True ∧ (pLoad P 33 t4 h13 fun r11 => R (.tuple #[r11, t62]) h13)) ∧ True)) E) ∧ True) (
      Reads P (Instr.fieldAt 187 t3 1) h10 fun t64 =>
      pLoad P 5 t64 h10 fun t65 =>
      Reads P (Instr.fieldAt 187 t6 1) h10 fun t66 =>
      pLoad P 5 t66 h10 fun t67 =>
      Reads P (binS .gtr 5 false t65 t67) h10 fun t68 =>
      boolV t68 fun b12 => bcase b12 (
        Stable h10 fun S13 =>
        ReadsS P (Instr.fieldAt 187 t3 2) S13 fun t69 =>
        pLoadS P 33 t69 S13 fun t70 =>
        ReadsS P (Instr.fieldAt 187 t3 3) S13 fun t72 =>
        pLoadS P 3 t72 S13 fun t73 =>
        (CallsH P 128 #[t0, (.int .i64 7), t73] h10 (fun t74 h14 =>
        S13 h14 ∧ ((pStore P 33 t4 t70 h14 fun h15 =>
        True ∧ (pLoad P 33 t4 h15 fun r14 => R (.tuple #[r14, t74]) h15)) ∧ True)) E) ∧ True) (
        Reads P (Instr.fieldAt 187 t3 1) h10 fun t75 =>
  pLoad P 5 t75 h10 fun t76 =>
  Reads P (Instr.fieldAt 187 t6 1) h10 fun t77 =>
  pLoad P 5 t77 h10 fun t78 =>
  CallsH P 141 #[t76, t78] h10 (fun t79 h16 =>
  pStore P 33 t4 t79 h16 fun h17 =>
  pLoad P 33 t4 h17 fun r15 => R (.tuple #[r15, .nilIface]) h17) E)))) E))
theorem C137 {E : List PanicEntry → Heap → Prop} {t0 t1 : Value} {h : Heap} {R : Value → Heap → Prop} (hs : S137 Tryz.prog E t0 t1 h R) : CallsH Tryz.prog 137 #[t0, t1] h R E :=
  calls_of_vc H137 Tryz.mixed Tryz.func137 rfl (by kernel_rfl) (by kernel_rfl) (Eq.mp (show S137 Tryz.prog E t0 t1 h R = vcFun Tryz.prog H137 E Tryz.f137.results.toList _ [t0, t1] h R from by kernel_rfl) hs)

def H138 : Hints := { r := fun _ => none, s := fun _ => none, l := fun i => match i with | 3 => some [9] | 6 => some [13] | _ => none, d := fun i => match i with | 8 => some (.cut 1 (.take 0 (.take 1 (.take 2 (.take 3 (.take 4 (.take 5 (.take 6 (.take 7 (.cut 0 (.act 8 .done .stop))))))))))) | _ => none }
def S138 (P : Program) (E : List PanicEntry → Heap → Prop) (t0 : Value) (h : Heap) (R : Value → Heap → Prop) : Prop :=
  pAlloc P 33 h fun t2 h1 =>
  pAlloc P 33 h1 fun t3 h2 =>
  Reads P (builtinS .len #[195] 3 #[t0]) h2 fun t8 =>
  Loop1 (.int .i64 0) h2 (fun C1 t9 h3 =>
    Reads P (binS .lss 3 false t9 t8) h3 fun t10 =>
    boolV t10 fun b2 => bcase b2 (
      Reads P (Instr.indexAt 195 t0 t9) h3 fun t11 =>
    pLoad P 33 t11 h3 fun t12 =>
    pAlloc P 33 h3 fun t5 h4 =>
    pStore P 33 t5 t12 h4 fun h5 =>
    Loop1 (.int .i64 0) h5 (fun C3 t13 h6 =>
      Reads P (binS .lss 3 true t13 (.int .i64 4)) h6 fun t14 =>
      boolV t14 fun b4 => bcase b4 (
        Reads P (Instr.indexAt 33 t3 t13) h6 fun t17 =>
      pLoad P 31 t17 h6 fun t18 =>
      Reads P (Instr.indexAt 33 t5 t13) h6 fun t20 =>
      pLoad P 31 t20 h6 fun t21 =>
      Reads P (binS .or 31 false t18 t21) h6 fun t22 =>
      Reads P (Instr.indexAt 33 t3 t13) h6 fun t23 =>
      (pStore P 31 t23 t22 h6 fun h7 =>
      True ∧ (Reads P (binS .add 3 true t13 (.int .i64 1)) h7 fun t24 =>
      C3 t24 h7)) ∧ True) (
        Reads P (binS .add 3 true t9 (.int .i64 1)) h6 fun t25 =>
    C1 t25 h6))) (
      pLoad P 33 t3 h3 fun t26 =>
  pStore P 33 t2 t26 h3 fun h8 =>
  pLoad P 33 t2 h8 fun r5 => R r5 h8))
theorem C138 {E : List PanicEntry → Heap → Prop} {t0 : Value} {h : Heap} {R : Value → Heap → Prop} (hs : S138 Tryz.prog E t0 h R) : CallsH Tryz.prog 138 #[t0] h R E :=
  calls_of_vc H138 Tryz.mixed Tryz.func138 rfl (by kernel_rfl) (by kernel_rfl) (Eq.mp (show S138 Tryz.prog E t0 h R = vcFun Tryz.prog H138 E Tryz.f138.results.toList _ [t0] h R from by kernel_rfl) hs)

def H140 : Hints := { r := fun _ => none, s := fun i => match i with | 18 => some [] | 23 => some [] | 25 => some [] | _ => none, l := fun _ => none, d := fun i => match i with | 23 => some (.cut 2 (.take 0 (.act 1 (.cut 0 (.act 2 (.cut 0 (.act 3 (.cut 0 (.act 4 .done .stop)) .stop)) .stop)) .stop))) | 26 => some (.cut 2 (.take 0 (.take 2 (.take 3 (.take 4 (.act 1 (.cut 0 (.act 5 (.cut 0 (.act 6 (.cut 0 (.act 7 (.cut 0 (.act 8 .done .stop)) .stop)) .stop)) .stop)) .stop)))))) | 28 => some (.cut 2 (.take 0 (.act 1 (.act 2 (.cut 0 (.act 3 (.cut 0 (.act 4 (.cut 0 (.act 5 .done .stop)) .stop)) .stop)) .stop) .stop))) | _ => none }
def S140 (P : Program) (E : List PanicEntry → Heap → Prop) (t0 : Value) (h : Heap) (R : Value → Heap → Prop) : Prop :=
  pAlloc P 33 h fun t2 h1 =>
  CallsH P 141 #[(.int .u8 33), (.int .u8 126)] h1 (fun t9 h2 =>
  CallsH P 141 #[(.int .u8 48), (.int .u8 57)] h2 (fun t10 h3 =>
  pAlloc P 33 h3 fun t4 h4 =>
  pAlloc P 33 h4 fun t5 h5 =>
  pStore P 33 t4 t9 h5 fun h6 =>
  pStore P 33 t5 t10 h6 fun h7 =>
  CallsH P 141 #[(.int .u8 65), (.int .u8 90)] h7 (fun t11 h8 =>
  CallsH P 141 #[(.int .u8 97), (.int .u8 122)] h8 (fun t12 h9 =>
  pAlloc P 33 h9 fun t6 h10 =>
  pAlloc P 33 h10 fun t7 h11 =>
  pStore P 33 t6 t11 h11 fun h12 =>
  pStore P 33 t7 t12 h12 fun h13 =>
  pAlloc P 33 h13 fun t8 h14 =>
  Join0 (fun J1 =>
    Join0 (fun J2 =>
      Join0 (fun J3 =>
        Reads P (binS .eql 9 true t0 (str [97, 108, 110, 117, 109])) h14 fun t15 =>
        boolV t15 fun b4 => bcase b4 (
          pLoad P 33 t5 h14 fun t38 =>
        pStore P 33 t8 t38 h14 fun h15 =>
        J3 h15) (
          Reads P (binS .eql 9 true t0 (str [97, 108, 112, 104, 97])) h14 fun t17 =>
        boolV t17 fun b5 => bcase b5 (
          J3 h14) (
          Reads P (binS .eql 9 true t0 (str [100, 105, 103, 105, 116])) h14 fun t19 =>
        boolV t19 fun b6 => bcase b6 (
          pLoad P 33 t5 h14 fun t44 =>
      pStore P 33 t8 t44 h14 fun h16 =>
      pLoad P 33 t8 h16 fun t75 =>
  pStore P 33 t2 t75 h16 fun h17 =>
  pLoad P 33 t2 h17 fun r7 => R (.tuple #[r7, (.bool true)]) h17) (
          Reads P (binS .eql 9 true t0 (str [117, 112, 112, 101, 114])) h14 fun t21 =>
        boolV t21 fun b8 => bcase b8 (
          pLoad P 33 t6 h14 fun t45 =>
      pStore P 33 t8 t45 h14 fun h18 =>
      pLoad P 33 t8 h18 fun t75_2 =>
  pStore P 33 t2 t75_2 h18 fun h19 =>
  pLoad P 33 t2 h19 fun r9 => R (.tuple #[r9, (.bool true)]) h19) (
          Reads P (binS .eql 9 true t0 (str [108, 111, 119, 101, 114])) h14 fun t23 =>
        boolV t23 fun b10 => bcase b10 (
          pLoad P 33 t7 h14 fun t46 =>
      pStore P 33 t8 t46 h14 fun h20 =>
      pLoad P 33 t8 h20 fun t75_3 =>
  pStore P 33 t2 t75_3 h20 fun h21 =>
  pLoad P 33 t2 h21 fun r11 => R (.tuple #[r11, (.bool true)]) h21) (
          Reads P (binS .eql 9 true t0 (str [115, 112, 97, 99, 101])) h14 fun t25 =>
        boolV t25 fun b12 => bcase b12 (
          CallsH P 141 #[(.int .u8 9), (.int .u8 13)] h14 (fun t47 h22 =>
      pStore P 33 t8 t47 h22 fun h23 =>
      J2 h23) E) (
          Reads P (binS .eql 9 true t0 (str [98, 108, 97, 110, 107])) h14 fun t27 =>
        boolV t27 fun b13 => bcase b13 (
          J2 h14) (
          Reads P (binS .eql 9 true t0 (str [112, 114, 105, 110, 116])) h14 fun t29 =>
        boolV t29 fun b14 => bcase b14 (
          CallsH P 120 #[(str [32])] h14 (fun t52 h24 =>
    pStore P 33 t8 t52 h24 fun h25 =>
    J1 h25) E) (
          Reads P (binS .eql 9 true t0 (str [103, 114, 97, 112, 104])) h14 fun t31 =>
        boolV t31 fun b15 => bcase b15 (
          J1 h14) (
          Reads P (binS .eql 9 true t0 (str [112, 117, 110, 99, 116])) h14 fun t33 =>
        boolV t33 fun b16 => bcase b16 (
          Stable h14 fun S17 =>
  pLoadS P 33 t4 S17 fun t57 =>
  pLoadS P 33 t5 S17 fun t59 =>
  pLoadS P 33 t6 S17 fun t60 =>
  pLoadS P 33 t7 S17 fun t61 =>
  (CallsH P 96 #[t57] h14 (fun t58 h26 =>
  S17 h26 ∧ ((Runs P (vS (Instr.buildSlice 195 4 #[(0, t58), (1, t59), (2, t60), (3, t61)])) h26 (fun t62 h27 =>
  True ∧ ((CallsH P 138 #[t62] h27 (fun t63 h28 =>
  True ∧ ((CallsH P 96 #[t63] h28 (fun t64 h29 =>
  True ∧ ((pStore P 33 t8 t64 h29 fun h30 =>
  True ∧ (pLoad P 33 t8 h30 fun t75_4 =>
  pStore P 33 t2 t75_4 h30 fun h31 =>
  pLoad P 33 t2 h31 fun r18 => R (.tuple #[r18, (.bool true)]) h31)) ∧ True)) E) ∧ True)) E) ∧ True)) E) ∧ True)) E) ∧ True) (
          Reads P (binS .eql 9 true t0 (str [99, 110, 116, 114, 108])) h14 fun t35 =>
        boolV t35 fun b19 => bcase b19 (
          CallsH P 141 #[(.int .u8 0), (.int .u8 31)] h14 (fun t65 h32 =>
  CallsH P 120 #[(str [127])] h32 (fun t66 h33 =>
  Runs P (vS (Instr.buildSlice 195 2 #[(0, t65), (1, t66)])) h33 (fun t67 h34 =>
  CallsH P 138 #[t67] h34 (fun t68 h35 =>
  pStore P 33 t8 t68 h35 fun h36 =>
  pLoad P 33 t8 h36 fun t75_5 =>
  pStore P 33 t2 t75_5 h36 fun h37 =>
  pLoad P 33 t2 h37 fun r20 => R (.tuple #[r20, (.bool true)]) h37) E) E) E) E) (
          Reads P (binS .eql 9 true t0 (str [120, 100, 105, 103, 105, 116])) h14 fun t37 =>
        boolV t37 fun b21 => bcase b21 (
          Stable h14 fun S22 =>
  pLoadS P 33 t5 S22 fun t69 =>
  (CallsH P 141 #[(.int .u8 97), (.int .u8 102)] h14 (fun t70 h38 =>
  S22 h38 ∧ ((CallsH P 141 #[(.int .u8 65), (.int .u8 70)] h38 (fun t71 h39 =>
  S22 h39 ∧ ((Runs P (vS (Instr.buildSlice 195 3 #[(0, t69), (1, t70), (2, t71)])) h39 (fun t72 h40 =>
  True ∧ ((CallsH P 138 #[t72] h40 (fun t73 h41 =>
  True ∧ ((pStore P 33 t8 t73 h41 fun h42 =>
  True ∧ (pLoad P 33 t8 h42 fun t75_6 =>
  pStore P 33 t2 t75_6 h42 fun h43 =>
  pLoad P 33 t2 h43 fun r23 => R (.tuple #[r23, (.bool true)]) h43)) ∧ True)) E) ∧ True)) E) ∧ True)) E) ∧ True)) E) ∧ True) (
          Reads P (Instr.build 33 #[]) h14 fun t74 =>
  pStore P 33 t2 t74 h14 fun h44 =>
  pLoad P 33 t2 h44 fun r24 => R (.tuple #[r24, (.bool false)]) h44)))))))))))))
      (fun h45 =>
      pLoad P 33 t8 h45 fun t39 =>
      pLoad P 33 t6 h45 fun t40 =>
      pLoad P 33 t7 h45 fun t41 =>
      Runs P (vS (Instr.buildSlice 195 3 #[(0, t39), (1, t40), (2, t41)])) h45 (fun t42 h46 =>
      CallsH P 138 #[t42] h46 (fun t43 h47 =>
      pStore P 33 t8 t43 h47 fun h48 =>
      pLoad P 33 t8 h48 fun t75_7 =>
  pStore P 33 t2 t75_7 h48 fun h49 =>
  pLoad P 33 t2 h49 fun r25 => R (.tuple #[r25, (.bool true)]) h49) E) E))
    (fun h50 =>
    Stable h50 fun S26 =>
    pLoadS P 33 t8 S26 fun t48 =>
    (CallsH P 120 #[(str [9, 32])] h50 (fun t49 h51 =>
    S26 h51 ∧ ((Runs P (vS (Instr.buildSlice 195 2 #[(0, t48), (1, t49)])) h51 (fun t50 h52 =>
    True ∧ ((CallsH P 138 #[t50] h52 (fun t51 h53 =>
    True ∧ ((pStore P 33 t8 t51 h53 fun h54 =>
    True ∧ (pLoad P 33 t8 h54 fun t75_8 =>
  pStore P 33 t2 t75_8 h54 fun h55 =>
  pLoad P 33 t2 h55 fun r27 => R (.tuple #[r27, (.bool true)]) h55)) ∧ True)) E) ∧ True)) E) ∧ True)) E) ∧ True))
  (fun h56 =>
  pLoad P 33 t8 h56 fun t53 =>
  pLoad P 33 t4 h56 fun t54 =>
  Runs P (vS (Instr.buildSlice 195 2 #[(0, t53), (1, t54)])) h56 (fun t55 h57 =>
  CallsH P 138 #[t55] h57 (fun t56 h58 =>
  pStore P 33 t8 t56 h58 fun h59 =>
  pLoad P 33 t8 h59 fun t75_9 =>
  pStore P 33 t2 t75_9 h59 fun h60 =>
  pLoad P 33 t2 h60 fun r28 => R (.tuple #[r28, (.bool true)]) h60) E) E)) E) E) E) E
theorem C140 {E : List PanicEntry → Heap → Prop} {t0 : Value} {h : Heap} {R : Value → Heap → Prop} (hs : S140 Tryz.prog E t0 h R) : CallsH Tryz.prog 140 #[t0] h R E :=
  calls_of_vc H140 Tryz.mixed Tryz.func140 rfl (by kernel_rfl) (by kernel_rfl) (Eq.mp (show S140 Tryz.prog E t0 h R = vcFun Tryz.prog H140 E Tryz.f140.results.toList _ [t0] h R from by kernel_rfl) hs)

def H141 : Hints := { r := fun _ => none, s := fun _ => none, l := fun i => match i with | 3 => some [6] | _ => none, d := fun _ => none }
def S141 (P : Program) (E : List PanicEntry → Heap → Prop) (t0 t1 : Value) (h : Heap) (R : Value → Heap → Prop) : Prop :=
  pAlloc P 33 h fun t4 h1 =>
  pAlloc P 33 h1 fun t5 h2 =>
  Reads P (convert 5 3 t0) h2 fun t8 =>
  Loop1 t8 h2 (fun C1 t6 h3 =>
    Reads P (convert 5 3 t1) h3 fun t11 =>
    Reads P (binS .leq 3 false t6 t11) h3 fun t12 =>
    boolV t12 fun b2 => bcase b2 (
      Reads P (convert 3 5 t6) h3 fun t16 =>
    CallsH P 130 #[t5, t16] h3 (fun t17 h4 =>
    Reads P (binS .add 3 true t6 (.int .i64 1)) h4 fun t14 =>
    C1 t14 h4) E) (
      pLoad P 33 t5 h3 fun t18 =>
  pStore P 33 t4 t18 h3 fun h5 =>
  pLoad P 33 t4 h5 fun r3 => R r3 h5))
theorem C141 {E : List PanicEntry → Heap → Prop} {t0 t1 : Value} {h : Heap} {R : Value → Heap → Prop} (hs : S141 Tryz.prog E t0 t1 h R) : CallsH Tryz.prog 141 #[t0, t1] h R E :=
  calls_of_vc H141 Tryz.mixed Tryz.func141 rfl (by kernel_rfl) (by kernel_rfl) (Eq.mp (show S141 Tryz.prog E t0 t1 h R = vcFun Tryz.prog H141 E Tryz.f141.results.toList _ [t0, t1] h R from by kernel_rfl) hs)

def H168 : Hints := { r := fun _ => none, s := fun _ => none, l := fun _ => none, d := fun _ => none }
def S168 (P : Program) (E : List PanicEntry → Heap → Prop) (t0 : Value) (h : Heap) (R : Value → Heap → Prop) : Prop :=
  Reads P (nilS t0) h fun t4 =>
  Reads P (Instr.fieldAt 80 t4 0) h fun t5 =>
  pLoad P 26 t5 h fun t6 =>
  R t6 h
theorem C168 {E : List PanicEntry → Heap → Prop} {t0 : Value} {h : Heap} {R : Value → Heap → Prop} (hs : S168 Tryz.prog E t0 h R) : CallsH Tryz.prog 168 #[t0] h R E :=
  calls_of_vc H168 Tryz.mixed Tryz.func168 rfl (by kernel_rfl) (by kernel_rfl) (Eq.mp (show S168 Tryz.prog E t0 h R = vcFun Tryz.prog H168 E Tryz.f168.results.toList _ [t0] h R from by kernel_rfl) hs)

def H170 : Hints := { r := fun _ => none, s := fun _ => none, l := fun _ => none, d := fun _ => none }
def S170 (P : Program) (E : List PanicEntry → Heap → Prop) (t0 : Value) (h : Heap) (R : Value → Heap → Prop) : Prop :=
  Reads P (nilS t0) h fun t4 =>
  Reads P (Instr.fieldAt 84 t4 0) h fun t5 =>
  pLoad P 26 t5 h fun t6 =>
  R t6 h
theorem C170 {E : List PanicEntry → Heap → Prop} {t0 : Value} {h : Heap} {R : Value → Heap → Prop} (hs : S170 Tryz.prog E t0 h R) : CallsH Tryz.prog 170 #[t0] h R E :=
  calls_of_vc H170 Tryz.mixed Tryz.func170 rfl (by kernel_rfl) (by kernel_rfl) (Eq.mp (show S170 Tryz.prog E t0 h R = vcFun Tryz.prog H170 E Tryz.f170.results.toList _ [t0] h R from by kernel_rfl) hs)

end Go.Proofs
