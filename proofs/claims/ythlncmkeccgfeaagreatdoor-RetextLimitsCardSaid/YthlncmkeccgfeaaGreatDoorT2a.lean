/- A part of the proofs over this seat: T2a. -/
import Derived.Test.YthlncmkeccgfeaaGreatDoorProg
import Derived.KernelRfl
import Derived.Test.YthlncmkeccgfeaaGreatDoorVcg
set_option linter.unusedVariables false
set_option linter.unusedSimpArgs false
set_option maxRecDepth 100000
namespace Go.Proofs
open Go.Vcg
theorem Tryz.mixed : Tryz.prog.follows .mixedOrders = true := by kernel_rfl
def H6 : Hints := { r := fun _ => none, s := fun i => match i with | 7 => some [8] | _ => none, l := fun _ => none, d := fun _ => none }
def S6 (P : Program) (E : List PanicEntry → Heap → Prop) (t0 t1 : Value) (h : Heap) (R : Value → Heap → Prop) : Prop :=
  CallsH P 11 #[t0, t1] h (fun t12 h1 =>
  Reads P (Instr.extract t12 0) h1 fun t13 =>
  Reads P (Instr.extract t12 1) h1 fun t14 =>
  CallsH P 17 #[t14] h1 (fun t16 h2 =>
  pAlloc P 42 h2 fun t7 h3 =>
  pStore P 42 t7 t16 h3 fun h4 =>
  Reads P (binS .neq 26 true t14 .nilIface) h4 fun t18 =>
  boolV t18 fun b1 => bcase b1 (
    Join1 (fun J2 =>
      boolV t1 fun b3 => bcase b3 (
        J2 (.int .i64 4) h4) (
        J2 (.int .i64 3) h4))
    (fun t8 h5 =>
    Reads P (binS .eql 24 true t13 (.pointer none)) h5 fun t21 =>
    boolV t21 fun b4 => bcase b4 (
    Reads P (Instr.fieldAt 42 t7 2) h5 fun t23 =>
    pLoad P 3 t23 h5 fun t24 =>
    Reads P (binS .eql 3 false t24 t8) h5 fun t26 =>
    boolV t26 fun b5 => bcase b5 (
    Reads P (Instr.fieldAt 42 t7 1) h5 fun t29 =>
    pLoad P 3 t29 h5 fun t30 =>
    Reads P (binS .geq 3 true t30 (.int .i64 0)) h5 fun t31 =>
    boolV t31 fun b6 => bcase b6 (
    Reads P (Instr.fieldAt 42 t7 1) h5 fun t34 =>
    pLoad P 3 t34 h5 fun t35 =>
    Reads P (builtinS .len #[29] 3 #[t0]) h5 fun t37 =>
    Reads P (binS .leq 3 false t35 t37) h5 fun t38 =>
    boolV t38 fun b7 => bcase b7 (
    Reads P (Instr.fieldAt 42 t7 0) h5 fun t41 =>
    pLoad P 3 t41 h5 fun t42 =>
    Reads P (binS .neq 3 true t42 (.int .i64 22)) h5 fun t43 =>
    boolV t43 fun b8 => bcase b8 (
    Reads P (Instr.fieldAt 42 t7 0) h5 fun t46 =>
    pLoad P 3 t46 h5 fun t47 =>
    Reads P (binS .eql 3 true t47 (.int .i64 2)) h5 fun t48 =>
    Reads P (builtinS .len #[29] 3 #[t0]) h5 fun t50 =>
    Reads P (binS .gtr 3 true t50 (.int .i64 256)) h5 fun t51 =>
    Reads P (binS .eql 4 false t48 t51) h5 fun t52 =>
    boolV t52 fun b9 => bcase b9 (
    CallsH P 10 #[] h5 (fun t55 h6 =>
    R t55 h6) E) (
    R (.bool false) h5)) (
    R (.bool false) h5)) (
    R (.bool false) h5)) (
    R (.bool false) h5)) (
    R (.bool false) h5)) (
    R (.bool false) h5))) (
    Reads P (binS .neq 24 true t13 (.pointer none)) h4 fun t58 =>
  boolV t58 fun b10 => bcase b10 (
  Reads P (builtinS .len #[29] 3 #[t0]) h4 fun t61 =>
  Reads P (binS .gtr 3 true t61 (.int .i64 0)) h4 fun t62 =>
  boolV t62 fun b11 => bcase b11 (
  CallsH P 12 #[t13] h4 (fun t66 h7 =>
  Reads P (binS .leq 3 true t66 (.int .i64 9)) h7 fun t67 =>
  boolV t67 fun b12 => bcase b12 (
  CallsH P 13 #[t13] h7 (fun t71 h8 =>
  Reads P (Instr.field 36 t71 0) h8 fun t72 =>
  Reads P (binS .geq 3 true t72 (.int .i64 1)) h8 fun t73 =>
  boolV t73 fun b13 => bcase b13 (
  CallsH P 10 #[] h8 (fun t76 h9 =>
  R t76 h9) E) (
  R (.bool false) h8)) E) (
  R (.bool false) h7)) E) (
  R (.bool false) h4)) (
  R (.bool false) h4))) E) E
theorem C6 {E : List PanicEntry → Heap → Prop} {t0 t1 : Value} {h : Heap} {R : Value → Heap → Prop} (hs : S6 Tryz.prog E t0 t1 h R) : CallsH Tryz.prog 6 #[t0, t1] h R E :=
  calls_of_vc H6 Tryz.mixed Tryz.func6 rfl (by kernel_rfl) (by kernel_rfl) (Eq.mp (show S6 Tryz.prog E t0 t1 h R = vcFun Tryz.prog H6 E Tryz.f6.results.toList _ [t0, t1] h R from by kernel_rfl) hs)

def H7 : Hints := { r := fun _ => none, s := fun i => match i with | 5 => some [11, 12, 13, 14] | 16 => some [82] | _ => none, l := fun i => match i with | 7 => some [15, 31] | 11 => some [15] | _ => none, d := fun i => match i with | 15 => some (.cut 2 (.take 0 (.take 2 (.act 1 (.cut 1 (.take 3 (.take 4 (.take 5 (.take 6 (.take 7 (.take 8 .done))))))) .stop)))) | 16 => some (.cut 2 (.take 0 (.take 2 (.act 1 (.cut 1 (.take 3 (.take 4 (.cut 0 (.act 5 (.cut 1 (.take 6 (.take 7 .done))) .stop))))) .stop)))) | 17 => some (.cut 2 (.take 0 (.take 2 (.act 1 (.cut 0 (.act 3 (.cut 1 (.take 4 (.take 5 (.cut 0 (.act 6 (.cut 1 (.take 7 (.take 8 .done))) .stop))))) .stop)) .stop)))) | _ => none }
def S7 (P : Program) (E : List PanicEntry → Heap → Prop) (t0 t1 t2 t3 t4 : Value) (h : Heap) (R : Value → Heap → Prop) : Prop :=
  Reads P (binS .rem 3 true t0 (.int .i64 300)) h fun t22 =>
  Reads P (binS .add 3 true t22 (.int .i64 300)) h fun t23 =>
  Reads P (binS .rem 3 true t23 (.int .i64 300)) h fun t24 =>
  Reads P (binS .rem 3 true t1 (.int .i64 14)) h fun t26 =>
  Reads P (binS .add 3 true t26 (.int .i64 14)) h fun t27 =>
  Reads P (binS .rem 3 true t27 (.int .i64 14)) h fun t28 =>
  Join4 (fun J1 =>
    boolV t4 fun b2 => bcase b2 (
      J1 (str [40]) (str [41]) (str [123]) (str [125]) h) (
      J1 (str [92, 40]) (str [92, 41]) (str [92, 123]) (str [92, 125]) h))
  (fun t11 t12 t13 t14 h1 =>
  Loop2 (str []) (.int .i64 0) h1 (fun C3 t15 t31 h2 =>
    Reads P (binS .lss 3 false t31 t28) h2 fun t32 =>
    boolV t32 fun b4 => bcase b4 (
      Reads P (binS .add 9 true t11 (str [97])) h2 fun t35 =>
    Reads P (binS .add 9 false t35 t12) h2 fun t37 =>
    Reads P (binS .add 9 false t15 t37) h2 fun t38 =>
    Reads P (binS .add 3 true t31 (.int .i64 1)) h2 fun t39 =>
    C3 t38 t39 h2) (
      Reads P (binS .add 9 true (str [98]) t13) h2 fun t42 =>
  CallsH P 20 #[t2] h2 (fun t44 h3 =>
  Reads P (binS .add 9 false t42 t44) h3 fun t45 =>
  Reads P (binS .add 9 true t45 (str [44])) h3 fun t46 =>
  CallsH P 20 #[t3] h3 (fun t48 h4 =>
  Reads P (binS .add 9 false t46 t48) h4 fun t49 =>
  Reads P (binS .add 9 false t49 t14) h4 fun t51 =>
  Reads P (binS .add 9 false t15 t51) h4 fun t52 =>
  Loop1 t52 h4 (fun C5 t15_2 h5 =>
    Reads P (builtinS .len #[9] 3 #[t15_2]) h5 fun t54 =>
    Reads P (binS .lss 3 false t54 t24) h5 fun t56 =>
    boolV t56 fun b6 => bcase b6 (
      Reads P (binS .add 9 true t15_2 (str [99])) h5 fun t58 =>
    C5 t58 h5) (
      Runs P (vS (convert 9 29 t15_2)) h5 (fun t61 h6 =>
  CallsH P 11 #[t61, t4] h6 (fun t63 h7 =>
  Reads P (Instr.extract t63 0) h7 fun t64 =>
  Reads P (Instr.extract t63 1) h7 fun t65 =>
  Runs P (vS (convert 9 29 t15_2)) h7 (fun t68 h8 =>
  CallsH P 16 #[t68, t4] h8 (fun t70 h9 =>
  Reads P (Instr.extract t70 0) h9 fun t71 =>
  Reads P (Instr.extract t70 1) h9 fun t72 =>
  Reads P (Instr.extract t70 2) h9 fun t73 =>
  pAlloc P 36 h9 fun t18 h10 =>
  pAlloc P 42 h10 fun t20 h11 =>
  pStore P 36 t18 t71 h11 fun h12 =>
  pStore P 42 t20 t73 h12 fun h13 =>
  Join1 (fun J7 =>
    Stable h13 fun S8 =>
    pLoadS P 42 t20 S8 fun t76 =>
    (CallsH P 17 #[t65] h13 (fun t75 h14 =>
    S8 h14 ∧ (Reads P (binS .neq 42 false t75 t76) h14 fun t77 =>
    boolV t77 fun b9 => bcase b9 (
    J7 (.bool true) h14) (
    Reads P (Instr.fieldAt 42 t20 0) h14 fun t79 =>
    pLoad P 3 t79 h14 fun t80 =>
    Reads P (binS .neq 3 true t80 (.int .i64 0)) h14 fun t81 =>
    J7 t81 h14))) E) ∧ True)
  (fun t82 h15 =>
  boolV t82 fun b10 => bcase b10 (
    Stable h15 fun S11 =>
    pLoadS P 42 t20 S11 fun t85 =>
    (CallsH P 17 #[t65] h15 (fun t84 h16 =>
    S11 h16 ∧ (Reads P (binS .eql 42 false t84 t85) h16 fun t86 =>
    (boolV t86 fun b12 => bcase b12 (
    CallsH P 10 #[] h16 (fun t88 h17 =>
    True ∧ (R t88 h17)) E) (
    R (.bool false) h16)) ∧ True)) E) ∧ True) (
    Stable h15 fun S13 =>
  pLoadS P 36 t18 S13 fun t92 =>
  (CallsH P 21 #[t64] h15 (fun t91 h18 =>
  S13 h18 ∧ ((CallsH P 22 #[t92] h18 (fun t93 h19 =>
  True ∧ (Reads P (binS .eql 9 false t91 t93) h19 fun t94 =>
  (boolV t94 fun b14 => bcase b14 (
  CallsH P 10 #[] h19 (fun t96 h20 =>
  True ∧ (R t96 h20)) E) (
  R (.bool false) h19)) ∧ True)) E) ∧ True)) E) ∧ True))) E) E) E) E))) E) E)))
theorem C7 {E : List PanicEntry → Heap → Prop} {t0 t1 t2 t3 t4 : Value} {h : Heap} {R : Value → Heap → Prop} (hs : S7 Tryz.prog E t0 t1 t2 t3 t4 h R) : CallsH Tryz.prog 7 #[t0, t1, t2, t3, t4] h R E :=
  calls_of_vc H7 Tryz.mixed Tryz.func7 rfl (by kernel_rfl) (by kernel_rfl) (Eq.mp (show S7 Tryz.prog E t0 t1 t2 t3 t4 h R = vcFun Tryz.prog H7 E Tryz.f7.results.toList _ [t0, t1, t2, t3, t4] h R from by kernel_rfl) hs)

def H8 : Hints := { r := fun _ => none, s := fun i => match i with | 4 => some [31] | _ => none, l := fun _ => none, d := fun i => match i with | 3 => some (.cut 2 (.take 0 (.take 2 (.act 1 (.cut 1 (.take 3 (.take 4 (.take 5 (.take 6 (.take 7 (.take 8 .done))))))) .stop)))) | 4 => some (.cut 2 (.take 0 (.take 2 (.act 1 (.cut 1 (.take 3 (.take 4 (.take 5 (.take 6 (.take 7 (.take 8 (.cut 0 (.act 9 (.cut 1 (.take 10 (.take 11 .done))) .stop))))))))) .stop)))) | 5 => some (.cut 1 (.take 0 (.take 1 (.take 2 (.cut 2 (.take 3 (.take 5 (.act 4 (.cut 0 (.act 6 (.cut 1 (.take 7 (.take 8 (.take 9 (.cut 0 (.take 10 (.take 12 (.act 11 (.cut 1 (.take 13 (.take 14 (.take 15 (.cut 0 (.take 16 (.take 18 (.act 17 (.cut 1 (.take 19 (.take 20 (.take 21 (.cut 0 (.act 22 (.cut 1 (.take 23 (.take 24 .done))) .stop)))))) .stop)))))))) .stop)))))))) .stop)) .stop)))))))) | _ => none }
def S8 (P : Program) (E : List PanicEntry → Heap → Prop) (t0 t1 : Value) (h : Heap) (R : Value → Heap → Prop) : Prop :=
  CallsH P 11 #[t0, t1] h (fun t13 h1 =>
  Reads P (Instr.extract t13 0) h1 fun t14 =>
  Reads P (Instr.extract t13 1) h1 fun t15 =>
  CallsH P 16 #[t0, t1] h1 (fun t19 h2 =>
  Reads P (Instr.extract t19 0) h2 fun t20 =>
  Reads P (Instr.extract t19 1) h2 fun t21 =>
  Reads P (Instr.extract t19 2) h2 fun t22 =>
  pAlloc P 36 h2 fun t7 h3 =>
  pAlloc P 42 h3 fun t9 h4 =>
  pStore P 36 t7 t20 h4 fun h5 =>
  pStore P 42 t9 t22 h5 fun h6 =>
  Join1 (fun J1 =>
    Stable h6 fun S2 =>
    pLoadS P 42 t9 S2 fun t25 =>
    (CallsH P 17 #[t15] h6 (fun t24 h7 =>
    S2 h7 ∧ (Reads P (binS .neq 42 false t24 t25) h7 fun t26 =>
    boolV t26 fun b3 => bcase b3 (
    J1 (.bool true) h7) (
    Reads P (Instr.fieldAt 42 t9 0) h7 fun t28 =>
    pLoad P 3 t28 h7 fun t29 =>
    Reads P (binS .neq 3 true t29 (.int .i64 0)) h7 fun t30 =>
    J1 t30 h7))) E) ∧ True)
  (fun t31 h8 =>
  boolV t31 fun b4 => bcase b4 (
    Stable h8 fun S5 =>
    pLoadS P 42 t9 S5 fun t34 =>
    (CallsH P 17 #[t15] h8 (fun t33 h9 =>
    S5 h9 ∧ (Reads P (binS .eql 42 false t33 t34) h9 fun t35 =>
    boolV t35 fun b6 => bcase b6 (
    Reads P (binS .eql 24 true t14 (.pointer none)) h9 fun t38 =>
    (boolV t38 fun b7 => bcase b7 (
    CallsH P 10 #[] h9 (fun t41 h10 =>
    True ∧ (R t41 h10)) E) (
    R (.bool false) h9)) ∧ True) (
    (R (.bool false) h9) ∧ True))) E) ∧ True) (
    Reads P (binS .neq 24 true t14 (.pointer none)) h8 fun t44 =>
  Stable h8 fun S8 =>
  boolV t44 fun b9 => bcase b9 (
  pLoadS P 36 t7 S8 fun t48 =>
  (CallsH P 21 #[t14] h8 (fun t47 h11 =>
  S8 h11 ∧ ((CallsH P 22 #[t48] h11 (fun t49 h12 =>
  True ∧ (Reads P (binS .eql 9 false t47 t49) h12 fun t50 =>
  boolV t50 fun b10 => bcase b10 (
  (CallsH P 12 #[t14] h12 (fun t54 h13 =>
  True ∧ (Reads P (binS .eql 3 false t54 t21) h13 fun t56 =>
  boolV t56 fun b11 => bcase b11 (
  (CallsH P 23 #[t14] h13 (fun t60 h14 =>
  True ∧ (Reads P (binS .eql 4 false t60 t1) h14 fun t62 =>
  (boolV t62 fun b12 => bcase b12 (
  CallsH P 10 #[] h14 (fun t65 h15 =>
  True ∧ (R t65 h15)) E) (
  R (.bool false) h14)) ∧ True)) E) ∧ True) (
  ((R (.bool false) h13) ∧ True) ∧ True))) E) ∧ True) (
  (((R (.bool false) h12) ∧ True) ∧ True) ∧ True))) E) ∧ True)) E) ∧ True) (
  (((((R (.bool false) h8) ∧ True) ∧ True) ∧ True) ∧ True) ∧ True)))) E) E
theorem C8 {E : List PanicEntry → Heap → Prop} {t0 t1 : Value} {h : Heap} {R : Value → Heap → Prop} (hs : S8 Tryz.prog E t0 t1 h R) : CallsH Tryz.prog 8 #[t0, t1] h R E :=
  calls_of_vc H8 Tryz.mixed Tryz.func8 rfl (by kernel_rfl) (by kernel_rfl) (Eq.mp (show S8 Tryz.prog E t0 t1 h R = vcFun Tryz.prog H8 E Tryz.f8.results.toList _ [t0, t1] h R from by kernel_rfl) hs)

def H9 : Hints := { r := fun _ => none, s := fun _ => none, l := fun i => match i with | 3 => some [5, 10] | _ => none, d := fun _ => none }
def S9 (P : Program) (E : List PanicEntry → Heap → Prop) (t0 t1 : Value) (h : Heap) (R : Value → Heap → Prop) : Prop :=
  Reads P (builtinS .len #[9] 3 #[t0]) h fun t9 =>
  Loop2 (.slice none 0 0) (.int .i64 0) h (fun C1 t5 t10 h1 =>
    Reads P (binS .lss 3 false t10 t9) h1 fun t11 =>
    boolV t11 fun b2 => bcase b2 (
      Reads P (Instr.index 9 t0 t10) h1 fun t15 =>
    Reads P (binS .eql 5 true t15 (.int .u8 10)) h1 fun t18 =>
    boolV t18 fun b3 => bcase b3 (
      Runs P (vS (Instr.buildSlice 29 1 #[(0, (.int .u8 92))])) h1 (fun t30 h2 =>
    Runs P (builtin .append #[29, 29] 29 #[false, false] #[t5, t30]) h2 (fun t31 h3 =>
    Runs P (vS (Instr.buildSlice 29 1 #[(0, (.int .u8 110))])) h3 (fun t34 h4 =>
    Runs P (builtin .append #[29, 29] 29 #[false, false] #[t31, t34]) h4 (fun t35 h5 =>
    Reads P (binS .add 3 true t10 (.int .i64 1)) h5 fun t36 =>
    C1 t35 t36 h5) E) E) E) E) (
      CallsH P 24 #[(str [46, 91, 93, 42, 94, 36, 47, 92]), t15] h1 (fun t21 h6 =>
    Reads P (binS .geq 3 true t21 (.int .i64 0)) h6 fun t22 =>
    boolV t22 fun b4 => bcase b4 (
      Runs P (vS (Instr.buildSlice 29 1 #[(0, (.int .u8 92))])) h6 (fun t30_2 h7 =>
    Runs P (builtin .append #[29, 29] 29 #[false, false] #[t5, t30_2]) h7 (fun t31_2 h8 =>
    Runs P (vS (Instr.buildSlice 29 1 #[(0, t15)])) h8 (fun t34_2 h9 =>
    Runs P (builtin .append #[29, 29] 29 #[false, false] #[t31_2, t34_2]) h9 (fun t35_2 h10 =>
    Reads P (binS .add 3 true t10 (.int .i64 1)) h10 fun t36_2 =>
    C1 t35_2 t36_2 h10) E) E) E) E) (
      boolV t1 fun b5 => bcase b5 (
      CallsH P 24 #[(str [40, 41, 43, 63, 123, 125, 124]), t15] h6 (fun t26 h11 =>
      Reads P (binS .geq 3 true t26 (.int .i64 0)) h11 fun t27 =>
      boolV t27 fun b6 => bcase b6 (
      Runs P (vS (Instr.buildSlice 29 1 #[(0, (.int .u8 92))])) h11 (fun t30_3 h12 =>
    Runs P (builtin .append #[29, 29] 29 #[false, false] #[t5, t30_3]) h12 (fun t31_3 h13 =>
    Runs P (vS (Instr.buildSlice 29 1 #[(0, t15)])) h13 (fun t34_3 h14 =>
    Runs P (builtin .append #[29, 29] 29 #[false, false] #[t31_3, t34_3]) h14 (fun t35_3 h15 =>
    Reads P (binS .add 3 true t10 (.int .i64 1)) h15 fun t36_3 =>
    C1 t35_3 t36_3 h15) E) E) E) E) (
      Runs P (vS (Instr.buildSlice 29 1 #[(0, t15)])) h11 (fun t34_4 h16 =>
    Runs P (builtin .append #[29, 29] 29 #[false, false] #[t5, t34_4]) h16 (fun t35_4 h17 =>
    Reads P (binS .add 3 true t10 (.int .i64 1)) h17 fun t36_4 =>
    C1 t35_4 t36_4 h17) E) E)) E) (
      Runs P (vS (Instr.buildSlice 29 1 #[(0, t15)])) h6 (fun t34_5 h18 =>
    Runs P (builtin .append #[29, 29] 29 #[false, false] #[t5, t34_5]) h18 (fun t35_5 h19 =>
    Reads P (binS .add 3 true t10 (.int .i64 1)) h19 fun t36_5 =>
    C1 t35_5 t36_5 h19) E) E))) E)) (
      Reads P (convert 29 9 t5) h1 fun t38 =>
  R t38 h1))
theorem C9 {E : List PanicEntry → Heap → Prop} {t0 t1 : Value} {h : Heap} {R : Value → Heap → Prop} (hs : S9 Tryz.prog E t0 t1 h R) : CallsH Tryz.prog 9 #[t0, t1] h R E :=
  calls_of_vc H9 Tryz.mixed Tryz.func9 rfl (by kernel_rfl) (by kernel_rfl) (Eq.mp (show S9 Tryz.prog E t0 t1 h R = vcFun Tryz.prog H9 E Tryz.f9.results.toList _ [t0, t1] h R from by kernel_rfl) hs)

def H10 : Hints := { r := fun _ => none, s := fun _ => none, l := fun _ => none, d := fun _ => none }
def S10 (P : Program) (E : List PanicEntry → Heap → Prop) (h : Heap) (R : Value → Heap → Prop) : Prop :=
  Runs P (vS (Instr.buildSlice 29 6 #[(0, (.int .u8 40)), (1, (.int .u8 97)), (2, (.int .u8 124)), (3, (.int .u8 98)), (4, (.int .u8 41)), (5, (.int .u8 43))])) h (fun t4 h1 =>
  Runs P (vS (convert 29 29 t4)) h1 (fun t5 h2 =>
  CallsH P 11 #[t5, (.bool true)] h2 (fun t6 h3 =>
  Reads P (Instr.extract t6 0) h3 fun t7 =>
  Reads P (Instr.extract t6 1) h3 fun t8 =>
  Reads P (binS .eql 26 true t8 .nilIface) h3 fun t10 =>
  boolV t10 fun b1 => bcase b1 (
  Reads P (binS .neq 24 true t7 (.pointer none)) h3 fun t13 =>
  boolV t13 fun b2 => bcase b2 (
  CallsH P 21 #[t7] h3 (fun t17 h4 =>
  Reads P (binS .eql 9 true t17 (str [40, 114, 101, 112, 32, 49, 32, 45, 32, 40, 103, 114, 111, 117, 112, 32, 49, 32, 40, 97, 108, 116, 32, 91, 54, 49, 93, 32, 91, 54, 50, 93, 41, 41, 41])) h4 fun t18 =>
  R t18 h4) E) (
  R (.bool false) h3)) (
  R (.bool false) h3)) E) E) E
theorem C10 {E : List PanicEntry → Heap → Prop} {h : Heap} {R : Value → Heap → Prop} (hs : S10 Tryz.prog E  h R) : CallsH Tryz.prog 10 #[] h R E :=
  calls_of_vc H10 Tryz.mixed Tryz.func10 rfl (by kernel_rfl) (by kernel_rfl) (Eq.mp (show S10 Tryz.prog E  h R = vcFun Tryz.prog H10 E Tryz.f10.results.toList _ [] h R from by kernel_rfl) hs)

def H12 : Hints := { r := fun _ => none, s := fun _ => none, l := fun _ => none, d := fun _ => none }
def S12 (P : Program) (E : List PanicEntry → Heap → Prop) (t0 : Value) (h : Heap) (R : Value → Heap → Prop) : Prop :=
  Reads P (binS .eql 24 true t0 (.pointer none)) h fun t4 =>
  boolV t4 fun b1 => bcase b1 (
    R (.int .i64 0) h) (
    Reads P (nilS t0) h fun t6 =>
  Reads P (Instr.fieldAt 66 t6 1) h fun t7 =>
  pLoad P 3 t7 h fun t8 =>
  R t8 h)
theorem C12 {E : List PanicEntry → Heap → Prop} {t0 : Value} {h : Heap} {R : Value → Heap → Prop} (hs : S12 Tryz.prog E t0 h R) : CallsH Tryz.prog 12 #[t0] h R E :=
  calls_of_vc H12 Tryz.mixed Tryz.func12 rfl (by kernel_rfl) (by kernel_rfl) (Eq.mp (show S12 Tryz.prog E t0 h R = vcFun Tryz.prog H12 E Tryz.f12.results.toList _ [t0] h R from by kernel_rfl) hs)

def H13 : Hints := { r := fun _ => none, s := fun _ => none, l := fun _ => none, d := fun _ => none }
def S13 (P : Program) (E : List PanicEntry → Heap → Prop) (t0 : Value) (h : Heap) (R : Value → Heap → Prop) : Prop :=
  pAlloc P 36 h fun t2 h1 =>
  Reads P (binS .eql 24 true t0 (.pointer none)) h1 fun t4 =>
  boolV t4 fun b1 => bcase b1 (
    Reads P (Instr.build 36 #[]) h1 fun t5 =>
    pStore P 36 t2 t5 h1 fun h2 =>
    pLoad P 36 t2 h2 fun r2 => R r2 h2) (
    Reads P (nilS t0) h1 fun t7 =>
  Reads P (Instr.fieldAt 66 t7 0) h1 fun t8 =>
  pLoad P 36 t8 h1 fun t9 =>
  CallsH P 32 #[t9] h1 (fun t10 h3 =>
  pStore P 36 t2 t10 h3 fun h4 =>
  pLoad P 36 t2 h4 fun r3 => R r3 h4) E)
theorem C13 {E : List PanicEntry → Heap → Prop} {t0 : Value} {h : Heap} {R : Value → Heap → Prop} (hs : S13 Tryz.prog E t0 h R) : CallsH Tryz.prog 13 #[t0] h R E :=
  calls_of_vc H13 Tryz.mixed Tryz.func13 rfl (by kernel_rfl) (by kernel_rfl) (Eq.mp (show S13 Tryz.prog E t0 h R = vcFun Tryz.prog H13 E Tryz.f13.results.toList _ [t0] h R from by kernel_rfl) hs)

def H14 : Hints := { r := fun _ => none, s := fun i => match i with | 3 => some [] | _ => none, l := fun i => match i with | 4 => some [51] | _ => none, d := fun i => match i with | 6 => some (.cut 1 (.take 0 (.take 1 (.take 2 (.take 3 (.take 4 (.take 5 (.take 6 (.take 7 (.take 8 (.take 9 (.cut 0 (.act 10 (.cut 1 (.take 11 .done)) .stop))))))))))))) | _ => none }
def S14 (P : Program) (E : List PanicEntry → Heap → Prop) (t0 t1 : Value) (h : Heap) (R : Value → Heap → Prop) : Prop :=
  pNew 36 t0 h fun t2 h1 =>
  pNew 36 t1 h1 fun t3 h2 =>
  Join0 (fun J1 =>
    Reads P (Instr.fieldAt 36 t2 0) h2 fun t6 =>
    pLoad P 3 t6 h2 fun t7 =>
    Reads P (Instr.fieldAt 36 t3 0) h2 fun t8 =>
    pLoad P 3 t8 h2 fun t9 =>
    Reads P (binS .neq 3 false t7 t9) h2 fun t10 =>
    boolV t10 fun b2 => bcase b2 (
    R (.bool false) h2) (
    Reads P (Instr.fieldAt 36 t2 1) h2 fun t12 =>
    pLoad P 33 t12 h2 fun t13 =>
    Reads P (Instr.fieldAt 36 t3 1) h2 fun t14 =>
    pLoad P 33 t14 h2 fun t15 =>
    Reads P (binS .neq 33 false t13 t15) h2 fun t16 =>
    boolV t16 fun b3 => bcase b3 (
    R (.bool false) h2) (
    Reads P (Instr.fieldAt 36 t2 2) h2 fun t19 =>
    pLoad P 3 t19 h2 fun t20 =>
    Reads P (Instr.fieldAt 36 t3 2) h2 fun t21 =>
    pLoad P 3 t21 h2 fun t22 =>
    Reads P (binS .neq 3 false t20 t22) h2 fun t23 =>
    boolV t23 fun b4 => bcase b4 (
    R (.bool false) h2) (
    Reads P (Instr.fieldAt 36 t2 3) h2 fun t26 =>
    pLoad P 3 t26 h2 fun t27 =>
    Reads P (Instr.fieldAt 36 t3 3) h2 fun t28 =>
    pLoad P 3 t28 h2 fun t29 =>
    Reads P (binS .neq 3 false t27 t29) h2 fun t30 =>
    boolV t30 fun b5 => bcase b5 (
    R (.bool false) h2) (
    Reads P (Instr.fieldAt 36 t2 4) h2 fun t33 =>
    pLoad P 3 t33 h2 fun t34 =>
    Reads P (Instr.fieldAt 36 t3 4) h2 fun t35 =>
    pLoad P 3 t35 h2 fun t36 =>
    Reads P (binS .neq 3 false t34 t36) h2 fun t37 =>
    boolV t37 fun b6 => bcase b6 (
    R (.bool false) h2) (
    Reads P (Instr.fieldAt 36 t2 5) h2 fun t40 =>
    pLoad P 34 t40 h2 fun t41 =>
    Reads P (builtinS .len #[34] 3 #[t41]) h2 fun t42 =>
    Reads P (Instr.fieldAt 36 t3 5) h2 fun t43 =>
    pLoad P 34 t43 h2 fun t44 =>
    Reads P (builtinS .len #[34] 3 #[t44]) h2 fun t45 =>
    Reads P (binS .neq 3 false t42 t45) h2 fun t46 =>
    boolV t46 fun b7 => bcase b7 (
      R (.bool false) h2) (
      J1 h2)))))))
  (fun h3 =>
  Reads P (Instr.fieldAt 36 t2 5) h3 fun t48 =>
  pLoad P 34 t48 h3 fun t49 =>
  Reads P (builtinS .len #[34] 3 #[t49]) h3 fun t50 =>
  Loop1 (.int .i64 0) h3 (fun C8 t51 h4 =>
    Reads P (binS .lss 3 false t51 t50) h4 fun t52 =>
    boolV t52 fun b9 => bcase b9 (
      Reads P (Instr.fieldAt 36 t2 5) h4 fun t54 =>
    pLoad P 34 t54 h4 fun t55 =>
    Reads P (Instr.indexAt 34 t55 t51) h4 fun t57 =>
    pLoad P 36 t57 h4 fun t58 =>
    Reads P (Instr.fieldAt 36 t3 5) h4 fun t59 =>
    pLoad P 34 t59 h4 fun t60 =>
    Reads P (Instr.indexAt 34 t60 t51) h4 fun t62 =>
    pLoad P 36 t62 h4 fun t63 =>
    (CallsH P 14 #[t58, t63] h4 (fun t64 h5 =>
    True ∧ (Reads P (Op.unary .not t64) h5 fun t65 =>
    boolV t65 fun b10 => bcase b10 (
      R (.bool false) h5) (
      Reads P (binS .add 3 true t51 (.int .i64 1)) h5 fun t66 =>
    C8 t66 h5))) E) ∧ True) (
      R (.bool true) h4)))
theorem C14 {E : List PanicEntry → Heap → Prop} {t0 t1 : Value} {h : Heap} {R : Value → Heap → Prop} (hs : S14 Tryz.prog E t0 t1 h R) : CallsH Tryz.prog 14 #[t0, t1] h R E :=
  calls_of_vc H14 Tryz.mixed Tryz.func14 rfl (by kernel_rfl) (by kernel_rfl) (Eq.mp (show S14 Tryz.prog E t0 t1 h R = vcFun Tryz.prog H14 E Tryz.f14.results.toList _ [t0, t1] h R from by kernel_rfl) hs)

def H15 : Hints := { r := fun _ => none, s := fun _ => none, l := fun _ => none, d := fun _ => none }
def S15 (P : Program) (E : List PanicEntry → Heap → Prop) (t0 : Value) (h : Heap) (R : Value → Heap → Prop) : Prop :=
  pAlloc P 36 h fun t2 h1 =>
  Reads P (Instr.build 33 #[]) h1 fun t3 =>
  CallsH P 33 #[t3, t0] h1 (fun t5 h2 =>
  Reads P (Instr.build 36 #[(0, (.int .i64 1)), (1, t5)]) h2 fun t6 =>
  pStore P 36 t2 t6 h2 fun h3 =>
  pLoad P 36 t2 h3 fun r1 => R r1 h3) E
theorem C15 {E : List PanicEntry → Heap → Prop} {t0 : Value} {h : Heap} {R : Value → Heap → Prop} (hs : S15 Tryz.prog E t0 h R) : CallsH Tryz.prog 15 #[t0] h R E :=
  calls_of_vc H15 Tryz.mixed Tryz.func15 rfl (by kernel_rfl) (by kernel_rfl) (Eq.mp (show S15 Tryz.prog E t0 h R = vcFun Tryz.prog H15 E Tryz.f15.results.toList _ [t0] h R from by kernel_rfl) hs)

def H16 : Hints := { r := fun _ => none, s := fun i => match i with | 7 => some [23] | 10 => some [] | 11 => some [42] | 12 => some [] | 16 => some [] | _ => none, l := fun _ => none, d := fun i => match i with | 16 => some (.cut 2 (.take 0 (.take 1 (.act 2 (.take 3 (.cut 0 (.act 4 .done .stop))) .stop)))) | 17 => some (.cut 2 (.take 0 (.take 1 (.take 2 (.take 3 (.take 4 (.take 5 (.act 6 (.take 7 (.cut 0 (.act 8 .done .stop))) .stop)))))))) | _ => none }
def S16 (P : Program) (E : List PanicEntry → Heap → Prop) (t0 t1 : Value) (h : Heap) (R : Value → Heap → Prop) : Prop :=
  pAlloc P 36 h fun t4 h1 =>
  pAlloc P 42 h1 fun t6 h2 =>
  Reads P (Instr.build 71 #[(0, t0), (2, t1)]) h2 fun t12 =>
  pNew 71 t12 h2 fun t13 h3 =>
  Reads P (builtinS .len #[29] 3 #[t0]) h3 fun t15 =>
  Reads P (binS .gtr 3 true t15 (.int .i64 256)) h3 fun t16 =>
  boolV t16 fun b1 => bcase b1 (
    Reads P (Instr.build 36 #[]) h3 fun t17 =>
    CallsH P 35 #[t13] h3 (fun t19 h4 =>
    CallsH P 34 #[(.int .i64 2), (.int .i64 0), t19] h4 (fun t20 h5 =>
    pStore P 36 t4 t17 h5 fun h6 =>
    pStore P 42 t6 t20 h6 fun h7 =>
    pLoad P 36 t4 h7 fun r2 => pLoad P 42 t6 h7 fun r3 => R (.tuple #[r2, (.int .i64 0), r3]) h7) E) E) (
    pAlloc P 36 h3 fun t8 h8 =>
  Join0 (fun J4 =>
    Join1 (fun J5 =>
      boolV t1 fun b6 => bcase b6 (
      CallsH P 36 #[t13, (str [41])] h8 (fun t27 h9 =>
      J5 t27 h9) E) (
      J5 (.bool false) h8))
    (fun t23 h10 =>
    boolV t23 fun b7 => bcase b7 (
      CallsH P 37 #[t13, (.int .i64 9), (.int .i64 0)] h10 (fun t30 h11 =>
      J4 h11) E) (
      boolV t1 fun b8 => bcase b8 (
        CallsH P 38 #[t13] h10 (fun t34 h12 =>
        pStore P 36 t8 t34 h12 fun h13 =>
        J4 h13) E) (
        CallsH P 39 #[t13] h10 (fun t22 h14 =>
        pStore P 36 t8 t22 h14 fun h15 =>
        J4 h15) E))))
  (fun h16 =>
  Join0 (fun J9 =>
    Join1 (fun J10 =>
      CallsH P 40 #[t13] h16 (fun t36 h17 =>
      Reads P (Op.unary .not t36) h17 fun t37 =>
      boolV t37 fun b11 => bcase b11 (
      CallsH P 41 #[t13] h17 (fun t40 h18 =>
      Reads P (Op.unary .not t40) h18 fun t41 =>
      J10 t41 h18) E) (
      J10 (.bool false) h17)) E)
    (fun t42 h19 =>
    boolV t42 fun b12 => bcase b12 (
      Reads P (nilS t13) h19 fun t45 =>
      Reads P (Instr.fieldAt 71 t45 1) h19 fun t46 =>
      pLoad P 3 t46 h19 fun t47 =>
      CallsH P 37 #[t13, (.int .i64 9), t47] h19 (fun t48 h20 =>
      J9 h20) E) (
      J9 h19)))
  (fun h21 =>
  CallsH P 40 #[t13] h21 (fun t50 h22 =>
  boolV t50 fun b13 => bcase b13 (
    Reads P (nilS t13) h22 fun t52 =>
    Reads P (Instr.fieldAt 71 t52 4) h22 fun t53 =>
    pLoad P 42 t53 h22 fun t54 =>
    pAlloc P 42 h22 fun t9 h23 =>
    pStore P 42 t9 t54 h23 fun h24 =>
    Join0 (fun J14 =>
      boolV t1 fun b15 => bcase b15 (
      Reads P (Instr.fieldAt 42 t9 0) h24 fun t57 =>
      pLoad P 3 t57 h24 fun t58 =>
      Reads P (binS .eql 3 true t58 (.int .i64 3)) h24 fun t59 =>
      boolV t59 fun b16 => bcase b16 (
      Reads P (Instr.fieldAt 42 t9 1) h24 fun t62 =>
      pLoad P 3 t62 h24 fun t63 =>
      Reads P (builtinS .len #[29] 3 #[t0]) h24 fun t65 =>
      Reads P (binS .lss 3 false t63 t65) h24 fun t66 =>
      boolV t66 fun b17 => bcase b17 (
      Reads P (Instr.fieldAt 42 t9 1) h24 fun t70 =>
      pLoad P 3 t70 h24 fun t71 =>
      Reads P (Instr.indexAt 29 t0 t71) h24 fun t72 =>
      pLoad P 5 t72 h24 fun t73 =>
      Reads P (binS .eql 5 true t73 (.int .u8 41)) h24 fun t74 =>
      boolV t74 fun b18 => bcase b18 (
      Reads P (Instr.fieldAt 42 t9 1) h24 fun t78 =>
      pLoad P 3 t78 h24 fun t79 =>
      CallsH P 42 #[t0, t79] h24 (fun t80 h25 =>
      Reads P (Op.unary .not t80) h25 fun t81 =>
      boolV t81 fun b19 => bcase b19 (
        Reads P (Instr.fieldAt 42 t9 0) h25 fun t83 =>
        pStore P 3 t83 (.int .i64 9) h25 fun h26 =>
        J14 h26) (
        J14 h25)) E) (
      J14 h24)) (
      J14 h24)) (
      J14 h24)) (
      J14 h24))
    (fun h27 =>
    Stable h27 fun S20 =>
    ReadsS P (Instr.build 36 #[]) S20 fun t84 =>
    pLoadS P 42 t9 S20 fun t85 =>
    (pStore P 36 t4 t84 h27 fun h28 =>
    S20 h28 ∧ ((pStore P 42 t6 t85 h28 fun h29 =>
    True ∧ (pLoad P 36 t4 h29 fun r21 => pLoad P 42 t6 h29 fun r22 => R (.tuple #[r21, (.int .i64 0), r22]) h29)) ∧ True)) ∧ True)) (
    Stable h22 fun S23 =>
  pLoadS P 36 t8 S23 fun t86 =>
  ReadsS P (nilS t13) S23 fun t88 =>
  ReadsS P (Instr.fieldAt 71 t88 3) S23 fun t89 =>
  pLoadS P 3 t89 S23 fun t90 =>
  ReadsS P (Instr.build 42 #[]) S23 fun t91 =>
  (pStore P 36 t4 t86 h22 fun h30 =>
  S23 h30 ∧ ((pStore P 42 t6 t91 h30 fun h31 =>
  True ∧ (pLoad P 36 t4 h31 fun r24 => pLoad P 42 t6 h31 fun r25 => R (.tuple #[r24, t90, r25]) h31)) ∧ True)) ∧ True)) E)))
theorem C16 {E : List PanicEntry → Heap → Prop} {t0 t1 : Value} {h : Heap} {R : Value → Heap → Prop} (hs : S16 Tryz.prog E t0 t1 h R) : CallsH Tryz.prog 16 #[t0, t1] h R E :=
  calls_of_vc H16 Tryz.mixed Tryz.func16 rfl (by kernel_rfl) (by kernel_rfl) (Eq.mp (show S16 Tryz.prog E t0 t1 h R = vcFun Tryz.prog H16 E Tryz.f16.results.toList _ [t0, t1] h R from by kernel_rfl) hs)

def H17 : Hints := { r := fun _ => none, s := fun i => match i with | 12 => some [] | _ => none, l := fun i => match i with | 5 => some [4] | _ => none, d := fun _ => none }
def S17 (P : Program) (E : List PanicEntry → Heap → Prop) (t0 : Value) (h : Heap) (R : Value → Heap → Prop) : Prop :=
  pAlloc P 42 h fun t2 h1 =>
  Reads P (binS .eql 26 true t0 .nilIface) h1 fun t8 =>
  boolV t8 fun b1 => bcase b1 (
    Reads P (Instr.build 42 #[]) h1 fun t9 =>
    pStore P 42 t2 t9 h1 fun h2 =>
    pLoad P 42 t2 h2 fun r2 => R r2 h2) (
    Reads P (Instr.build 42 #[(0, (.int .i64 22))]) h1 fun t10 =>
  pAlloc P 42 h1 fun t3 h3 =>
  pStore P 42 t3 t10 h3 fun h4 =>
  Loop1 (.int .i64 21) h4 (fun C3 t4 h5 =>
    Reads P (binS .geq 3 true t4 (.int .i64 1)) h5 fun t12 =>
    boolV t12 fun b4 => bcase b4 (
      CallsH P 43 #[t0, t4] h5 (fun t17 h6 =>
    boolV t17 fun b5 => bcase b5 (
      Reads P (Instr.fieldAt 42 t3 0) h6 fun t19 =>
      pStore P 3 t19 t4 h6 fun h7 =>
      Reads P (binS .sub 3 true t4 (.int .i64 1)) h7 fun t14 =>
    C3 t14 h7) (
      Reads P (binS .sub 3 true t4 (.int .i64 1)) h6 fun t14_2 =>
    C3 t14_2 h6)) E) (
      pAlloc P 77 h5 fun t5 h8 =>
  Join0 (fun J6 =>
    Reads P (Instr.makeInterface 78 t5) h8 fun t21 =>
    CallsH P 30 #[t0, t21] h8 (fun t22 h9 =>
    boolV t22 fun b7 => bcase b7 (
      pLoad P 77 t5 h9 fun t23 =>
      Reads P (nilS t23) h9 fun t24 =>
      Reads P (Instr.fieldAt 80 t24 1) h9 fun t25 =>
      pLoad P 3 t25 h9 fun t26 =>
      Reads P (Instr.fieldAt 42 t3 1) h9 fun t27 =>
      pStore P 3 t27 t26 h9 fun h10 =>
      J6 h10) (
      J6 h9)) E)
  (fun h11 =>
  pAlloc P 81 h11 fun t6 h12 =>
  Reads P (Instr.makeInterface 82 t6) h12 fun t29 =>
  CallsH P 30 #[t0, t29] h12 (fun t30 h13 =>
  boolV t30 fun b8 => bcase b8 (
    pLoad P 81 t6 h13 fun t31 =>
    Reads P (nilS t31) h13 fun t32 =>
    Reads P (Instr.fieldAt 84 t32 1) h13 fun t33 =>
    pLoad P 3 t33 h13 fun t34 =>
    Reads P (Instr.fieldAt 42 t3 2) h13 fun t35 =>
    pStore P 3 t35 t34 h13 fun h14 =>
    pLoad P 42 t3 h14 fun t36 =>
  pStore P 42 t2 t36 h14 fun h15 =>
  pLoad P 42 t2 h15 fun r9 => R r9 h15) (
    pLoad P 42 t3 h13 fun t36_2 =>
  pStore P 42 t2 t36_2 h13 fun h16 =>
  pLoad P 42 t2 h16 fun r10 => R r10 h16)) E))))
theorem C17 {E : List PanicEntry → Heap → Prop} {t0 : Value} {h : Heap} {R : Value → Heap → Prop} (hs : S17 Tryz.prog E t0 h R) : CallsH Tryz.prog 17 #[t0] h R E :=
  calls_of_vc H17 Tryz.mixed Tryz.func17 rfl (by kernel_rfl) (by kernel_rfl) (Eq.mp (show S17 Tryz.prog E t0 h R = vcFun Tryz.prog H17 E Tryz.f17.results.toList _ [t0] h R from by kernel_rfl) hs)

def H18 : Hints := { r := fun _ => none, s := fun _ => none, l := fun i => match i with | 3 => some [3, 8] | _ => none, d := fun _ => none }
def S18 (P : Program) (E : List PanicEntry → Heap → Prop) (t0 : Value) (h : Heap) (R : Value → Heap → Prop) : Prop :=
  Reads P (builtinS .len #[29] 3 #[t0]) h fun t7 =>
  Loop2 (.int .i64 0) (.int .i64 0) h (fun C1 t3 t8 h1 =>
    Reads P (binS .lss 3 false t8 t7) h1 fun t9 =>
    boolV t9 fun b2 => bcase b2 (
      Reads P (Instr.indexAt 29 t0 t8) h1 fun t10 =>
    pLoad P 5 t10 h1 fun t11 =>
    Reads P (binS .eql 5 true t11 (.int .u8 40)) h1 fun t13 =>
    boolV t13 fun b3 => bcase b3 (
      Reads P (binS .add 3 true t3 (.int .i64 1)) h1 fun t15 =>
      Reads P (binS .add 3 true t8 (.int .i64 1)) h1 fun t16 =>
    C1 t15 t16 h1) (
      Reads P (binS .add 3 true t8 (.int .i64 1)) h1 fun t16_2 =>
    C1 t3 t16_2 h1)) (
      R t3 h1))
theorem C18 {E : List PanicEntry → Heap → Prop} {t0 : Value} {h : Heap} {R : Value → Heap → Prop} (hs : S18 Tryz.prog E t0 h R) : CallsH Tryz.prog 18 #[t0] h R E :=
  calls_of_vc H18 Tryz.mixed Tryz.func18 rfl (by kernel_rfl) (by kernel_rfl) (Eq.mp (show S18 Tryz.prog E t0 h R = vcFun Tryz.prog H18 E Tryz.f18.results.toList _ [t0] h R from by kernel_rfl) hs)

def H19 : Hints := { r := fun _ => none, s := fun _ => none, l := fun _ => none, d := fun _ => none }
def S19 (P : Program) (E : List PanicEntry → Heap → Prop) (t0 : Value) (h : Heap) (R : Value → Heap → Prop) : Prop :=
  pNew 36 t0 h fun t1 h1 =>
  Reads P (Instr.fieldAt 36 t1 0) h1 fun t3 =>
  pLoad P 3 t3 h1 fun t4 =>
  Reads P (binS .eql 3 true t4 (.int .i64 5)) h1 fun t5 =>
  boolV t5 fun b1 => bcase b1 (
    Reads P (Instr.fieldAt 36 t1 5) h1 fun t6 =>
    pLoad P 34 t6 h1 fun t7 =>
    Reads P (builtinS .len #[34] 3 #[t7]) h1 fun t8 =>
    R t8 h1) (
    R (.int .i64 1) h1)
theorem C19 {E : List PanicEntry → Heap → Prop} {t0 : Value} {h : Heap} {R : Value → Heap → Prop} (hs : S19 Tryz.prog E t0 h R) : CallsH Tryz.prog 19 #[t0] h R E :=
  calls_of_vc H19 Tryz.mixed Tryz.func19 rfl (by kernel_rfl) (by kernel_rfl) (Eq.mp (show S19 Tryz.prog E t0 h R = vcFun Tryz.prog H19 E Tryz.f19.results.toList _ [t0] h R from by kernel_rfl) hs)

def H20 : Hints := { r := fun _ => none, s := fun _ => none, l := fun i => match i with | 3 => some [0, 3] | _ => none, d := fun _ => none }
def S20 (P : Program) (E : List PanicEntry → Heap → Prop) (t0 : Value) (h : Heap) (R : Value → Heap → Prop) : Prop :=
  Reads P (binS .rem 3 true t0 (.int .i64 1300)) h fun t5 =>
  Reads P (binS .add 3 true t5 (.int .i64 1300)) h fun t6 =>
  Reads P (binS .rem 3 true t6 (.int .i64 1300)) h fun t7 =>
  Loop2 t7 (str []) h (fun C1 t0_2 t3 h1 =>
    Reads P (binS .rem 3 true t0_2 (.int .i64 10)) h1 fun t9 =>
    Reads P (binS .add 3 true (.int .i64 48) t9) h1 fun t10 =>
    Reads P (convert 3 5 t10) h1 fun t11 =>
    Runs P (vS (Instr.buildSlice 29 1 #[(0, t11)])) h1 (fun t12 h2 =>
    Reads P (convert 29 9 t12) h2 fun t13 =>
    Reads P (binS .add 9 false t13 t3) h2 fun t15 =>
    Reads P (binS .quo 3 true t0_2 (.int .i64 10)) h2 fun t17 =>
    Reads P (binS .eql 3 true t17 (.int .i64 0)) h2 fun t19 =>
    boolV t19 fun b2 => bcase b2 (
      R t15 h2) (
      C1 t17 t15 h2)) E)
theorem C20 {E : List PanicEntry → Heap → Prop} {t0 : Value} {h : Heap} {R : Value → Heap → Prop} (hs : S20 Tryz.prog E t0 h R) : CallsH Tryz.prog 20 #[t0] h R E :=
  calls_of_vc H20 Tryz.mixed Tryz.func20 rfl (by kernel_rfl) (by kernel_rfl) (Eq.mp (show S20 Tryz.prog E t0 h R = vcFun Tryz.prog H20 E Tryz.f20.results.toList _ [t0] h R from by kernel_rfl) hs)

def H21 : Hints := { r := fun _ => none, s := fun i => match i with | 3 => some [] | _ => none, l := fun _ => none, d := fun _ => none }
def S21 (P : Program) (E : List PanicEntry → Heap → Prop) (t0 : Value) (h : Heap) (R : Value → Heap → Prop) : Prop :=
  Join0 (fun J1 =>
    Reads P (binS .eql 24 true t0 (.pointer none)) h fun t5 =>
    boolV t5 fun b2 => bcase b2 (
    R (str []) h) (
    Reads P (nilS t0) h fun t8 =>
    Reads P (Instr.fieldAt 66 t8 0) h fun t9 =>
    Reads P (Instr.fieldAt 36 t9 0) h fun t10 =>
    pLoad P 3 t10 h fun t11 =>
    Reads P (binS .eql 3 true t11 (.int .i64 0)) h fun t12 =>
    boolV t12 fun b3 => bcase b3 (
      R (str []) h) (
      J1 h)))
  (fun h1 =>
  pAlloc P 87 h1 fun t3 h2 =>
  Reads P (nilS t0) h2 fun t15 =>
  Reads P (Instr.fieldAt 66 t15 0) h2 fun t16 =>
  pLoad P 36 t16 h2 fun t17 =>
  CallsH P 44 #[t3, t17] h2 (fun t18 h3 =>
  CallsH P 45 #[t3] h3 (fun t19 h4 =>
  R t19 h4) E) E)
theorem C21 {E : List PanicEntry → Heap → Prop} {t0 : Value} {h : Heap} {R : Value → Heap → Prop} (hs : S21 Tryz.prog E t0 h R) : CallsH Tryz.prog 21 #[t0] h R E :=
  calls_of_vc H21 Tryz.mixed Tryz.func21 rfl (by kernel_rfl) (by kernel_rfl) (Eq.mp (show S21 Tryz.prog E t0 h R = vcFun Tryz.prog H21 E Tryz.f21.results.toList _ [t0] h R from by kernel_rfl) hs)

def H22 : Hints := { r := fun _ => none, s := fun i => match i with | 20 => some [4] | 21 => some [3] | _ => none, l := fun i => match i with | 22 => some [3, 51] | _ => none, d := fun i => match i with | 3 => some (.cut 2 (.take 0 (.take 1 (.take 2 (.act 3 (.cut 1 (.take 4 .done)) .stop))))) | _ => none }
def S22 (P : Program) (E : List PanicEntry → Heap → Prop) (t0 : Value) (h : Heap) (R : Value → Heap → Prop) : Prop :=
  pNew 36 t0 h fun t1 h1 =>
  Reads P (Instr.fieldAt 36 t1 0) h1 fun t7 =>
  pLoad P 3 t7 h1 fun t8 =>
  Reads P (binS .eql 3 true t8 (.int .i64 1)) h1 fun t10 =>
  boolV t10 fun b1 => bcase b1 (
    Stable h1 fun S2 =>
    ReadsS P (Instr.fieldAt 36 t1 1) S2 fun t11 =>
    pLoadS P 33 t11 S2 fun t12 =>
    ReadsS P (Instr.build 33 #[]) S2 fun t13 =>
    (CallsH P 46 #[t13] h1 (fun t14 h2 =>
    S2 h2 ∧ (Reads P (binS .eql 33 false t12 t14) h2 fun t15 =>
    boolV t15 fun b3 => bcase b3 (
      R (str [46]) h2) (
      Reads P (Instr.fieldAt 36 t1 1) h2 fun t16 =>
    pLoad P 33 t16 h2 fun t17 =>
    CallsH P 47 #[t17] h2 (fun t18 h3 =>
    R t18 h3) E))) E) ∧ True) (
    Reads P (binS .eql 3 true t8 (.int .i64 2)) h1 fun t20 =>
    boolV t20 fun b4 => bcase b4 (
      R (str [94]) h1) (
      Reads P (binS .eql 3 true t8 (.int .i64 3)) h1 fun t22 =>
      boolV t22 fun b5 => bcase b5 (
        R (str [36]) h1) (
        Join1 (fun J6 =>
    Reads P (Instr.fieldAt 36 t1 0) h1 fun t23 =>
    pLoad P 3 t23 h1 fun t24 =>
    Reads P (binS .eql 3 true t24 (.int .i64 5)) h1 fun t26 =>
    boolV t26 fun b7 => bcase b7 (
      J6 (str [40, 97, 108, 116]) h1) (
      Reads P (binS .eql 3 true t24 (.int .i64 7)) h1 fun t28 =>
      boolV t28 fun b8 => bcase b8 (
        Reads P (Instr.fieldAt 36 t1 4) h1 fun t29 =>
        pLoad P 3 t29 h1 fun t30 =>
        CallsH P 48 #[t30] h1 (fun t31 h4 =>
        Reads P (binS .add 9 true (str [40, 103, 114, 111, 117, 112, 32]) t31) h4 fun t32 =>
        J6 t32 h4) E) (
        Reads P (binS .eql 3 true t24 (.int .i64 6)) h1 fun t34 =>
        boolV t34 fun b9 => bcase b9 (
          Join1 (fun J10 =>
            Reads P (Instr.fieldAt 36 t1 3) h1 fun t35 =>
            pLoad P 3 t35 h1 fun t36 =>
            Reads P (binS .geq 3 true t36 (.int .i64 0)) h1 fun t37 =>
            boolV t37 fun b11 => bcase b11 (
              Reads P (Instr.fieldAt 36 t1 3) h1 fun t38 =>
              pLoad P 3 t38 h1 fun t39 =>
              CallsH P 48 #[t39] h1 (fun t40 h5 =>
              J10 t40 h5) E) (
              J10 (str [45]) h1))
          (fun t4 h6 =>
          Reads P (Instr.fieldAt 36 t1 2) h6 fun t41 =>
          pLoad P 3 t41 h6 fun t42 =>
          CallsH P 48 #[t42] h6 (fun t43 h7 =>
          Reads P (binS .add 9 true (str [40, 114, 101, 112, 32]) t43) h7 fun t44 =>
          Reads P (binS .add 9 true t44 (str [32])) h7 fun t45 =>
          Reads P (binS .add 9 false t45 t4) h7 fun t47 =>
          J6 t47 h7) E)) (
          J6 (str [40, 99, 97, 116]) h1))))
  (fun t3 h8 =>
  Reads P (Instr.fieldAt 36 t1 5) h8 fun t48 =>
  pLoad P 34 t48 h8 fun t49 =>
  Reads P (builtinS .len #[34] 3 #[t49]) h8 fun t50 =>
  Loop2 t3 (.int .i64 0) h8 (fun C12 t3_2 t51 h9 =>
    Reads P (binS .lss 3 false t51 t50) h9 fun t52 =>
    boolV t52 fun b13 => bcase b13 (
      Reads P (Instr.indexAt 34 t49 t51) h9 fun t53 =>
    pLoad P 36 t53 h9 fun t54 =>
    pAlloc P 36 h9 fun t6 h10 =>
    pStore P 36 t6 t54 h10 fun h11 =>
    pLoad P 36 t6 h11 fun t56 =>
    CallsH P 22 #[t56] h11 (fun t57 h12 =>
    Reads P (binS .add 9 true (str [32]) t57) h12 fun t58 =>
    Reads P (binS .add 9 false t3_2 t58) h12 fun t59 =>
    Reads P (binS .add 3 true t51 (.int .i64 1)) h12 fun t60 =>
    C12 t59 t60 h12) E) (
      Reads P (binS .add 9 true t3_2 (str [41])) h9 fun t62 =>
  R t62 h9))))))
theorem C22 {E : List PanicEntry → Heap → Prop} {t0 : Value} {h : Heap} {R : Value → Heap → Prop} (hs : S22 Tryz.prog E t0 h R) : CallsH Tryz.prog 22 #[t0] h R E :=
  calls_of_vc H22 Tryz.mixed Tryz.func22 rfl (by kernel_rfl) (by kernel_rfl) (Eq.mp (show S22 Tryz.prog E t0 h R = vcFun Tryz.prog H22 E Tryz.f22.results.toList _ [t0] h R from by kernel_rfl) hs)

def H24 : Hints := { r := fun _ => none, s := fun _ => none, l := fun _ => none, d := fun _ => none }
def S24 (P : Program) (E : List PanicEntry → Heap → Prop) (t0 t1 : Value) (h : Heap) (R : Value → Heap → Prop) : Prop :=
  CallsH P 49 #[t0, t1] h (fun t7 h1 =>
  R t7 h1) E
theorem C24 {E : List PanicEntry → Heap → Prop} {t0 t1 : Value} {h : Heap} {R : Value → Heap → Prop} (hs : S24 Tryz.prog E t0 t1 h R) : CallsH Tryz.prog 24 #[t0, t1] h R E :=
  calls_of_vc H24 Tryz.mixed Tryz.func24 rfl (by kernel_rfl) (by kernel_rfl) (Eq.mp (show S24 Tryz.prog E t0 t1 h R = vcFun Tryz.prog H24 E Tryz.f24.results.toList _ [t0, t1] h R from by kernel_rfl) hs)

def H25 : Hints := { r := fun _ => none, s := fun _ => none, l := fun _ => none, d := fun _ => none }
def S25 (P : Program) (E : List PanicEntry → Heap → Prop) (t0 t1 : Value) (h : Heap) (R : Value → Heap → Prop) : Prop :=
  Reads P (binS .eql 26 true t0 .nilIface) h fun t6 =>
  boolV t6 fun b1 => bcase b1 (
    R .nilIface h) (
    Reads P (Instr.build 84 #[(0, t0), (1, t1)]) h fun t9 =>
  pNew 84 t9 h fun t10 h1 =>
  Reads P (Instr.makeInterface 81 t10) h1 fun t11 =>
  R t11 h1)
theorem C25 {E : List PanicEntry → Heap → Prop} {t0 t1 : Value} {h : Heap} {R : Value → Heap → Prop} (hs : S25 Tryz.prog E t0 t1 h R) : CallsH Tryz.prog 25 #[t0, t1] h R E :=
  calls_of_vc H25 Tryz.mixed Tryz.func25 rfl (by kernel_rfl) (by kernel_rfl) (Eq.mp (show S25 Tryz.prog E t0 t1 h R = vcFun Tryz.prog H25 E Tryz.f25.results.toList _ [t0, t1] h R from by kernel_rfl) hs)

def H26 : Hints := { r := fun _ => none, s := fun _ => none, l := fun _ => none, d := fun _ => none }
def S26 (P : Program) (E : List PanicEntry → Heap → Prop) (t0 t1 : Value) (h : Heap) (R : Value → Heap → Prop) : Prop :=
  Reads P (binS .eql 26 true t0 .nilIface) h fun t6 =>
  boolV t6 fun b1 => bcase b1 (
    R .nilIface h) (
    Reads P (Instr.build 80 #[(0, t0), (1, t1)]) h fun t9 =>
  pNew 80 t9 h fun t10 h1 =>
  Reads P (Instr.makeInterface 77 t10) h1 fun t11 =>
  R t11 h1)
theorem C26 {E : List PanicEntry → Heap → Prop} {t0 t1 : Value} {h : Heap} {R : Value → Heap → Prop} (hs : S26 Tryz.prog E t0 t1 h R) : CallsH Tryz.prog 26 #[t0, t1] h R E :=
  calls_of_vc H26 Tryz.mixed Tryz.func26 rfl (by kernel_rfl) (by kernel_rfl) (Eq.mp (show S26 Tryz.prog E t0 t1 h R = vcFun Tryz.prog H26 E Tryz.f26.results.toList _ [t0, t1] h R from by kernel_rfl) hs)

def H27 : Hints := { r := fun _ => none, s := fun _ => none, l := fun _ => none, d := fun _ => none }
def S27 (P : Program) (E : List PanicEntry → Heap → Prop) (t0 : Value) (h : Heap) (R : Value → Heap → Prop) : Prop :=
  Reads P (binS .eql 3 true t0 (.int .i64 1)) h fun t5 =>
  boolV t5 fun b1 => bcase b1 (
    pLoad P 26 (.pointer (some ⟨0, 0, none⟩)) h fun t6 =>
    R t6 h) (
    Reads P (binS .eql 3 true t0 (.int .i64 2)) h fun t8 =>
    boolV t8 fun b2 => bcase b2 (
      pLoad P 26 (.pointer (some ⟨1, 0, none⟩)) h fun t9 =>
      R t9 h) (
      Reads P (binS .eql 3 true t0 (.int .i64 3)) h fun t11 =>
      boolV t11 fun b3 => bcase b3 (
        pLoad P 26 (.pointer (some ⟨2, 0, none⟩)) h fun t12 =>
        R t12 h) (
        Reads P (binS .eql 3 true t0 (.int .i64 4)) h fun t14 =>
        boolV t14 fun b4 => bcase b4 (
          pLoad P 26 (.pointer (some ⟨3, 0, none⟩)) h fun t15 =>
          R t15 h) (
          Reads P (binS .eql 3 true t0 (.int .i64 5)) h fun t17 =>
          boolV t17 fun b5 => bcase b5 (
            pLoad P 26 (.pointer (some ⟨4, 0, none⟩)) h fun t18 =>
            R t18 h) (
            Reads P (binS .eql 3 true t0 (.int .i64 6)) h fun t20 =>
            boolV t20 fun b6 => bcase b6 (
              pLoad P 26 (.pointer (some ⟨5, 0, none⟩)) h fun t21 =>
              R t21 h) (
              Reads P (binS .eql 3 true t0 (.int .i64 7)) h fun t23 =>
              boolV t23 fun b7 => bcase b7 (
                pLoad P 26 (.pointer (some ⟨6, 0, none⟩)) h fun t24 =>
                R t24 h) (
                Reads P (binS .eql 3 true t0 (.int .i64 8)) h fun t26 =>
                boolV t26 fun b8 => bcase b8 (
                  pLoad P 26 (.pointer (some ⟨7, 0, none⟩)) h fun t27 =>
                  R t27 h) (
                  Reads P (binS .eql 3 true t0 (.int .i64 9)) h fun t29 =>
                  boolV t29 fun b9 => bcase b9 (
                    pLoad P 26 (.pointer (some ⟨8, 0, none⟩)) h fun t30 =>
                    R t30 h) (
                    Reads P (binS .eql 3 true t0 (.int .i64 10)) h fun t32 =>
                    boolV t32 fun b10 => bcase b10 (
                      pLoad P 26 (.pointer (some ⟨9, 0, none⟩)) h fun t33 =>
                      R t33 h) (
                      CallsH P 50 #[t0] h (fun t35 h1 =>
  R t35 h1) E))))))))))
theorem C27 {E : List PanicEntry → Heap → Prop} {t0 : Value} {h : Heap} {R : Value → Heap → Prop} (hs : S27 Tryz.prog E t0 h R) : CallsH Tryz.prog 27 #[t0] h R E :=
  calls_of_vc H27 Tryz.mixed Tryz.func27 rfl (by kernel_rfl) (by kernel_rfl) (Eq.mp (show S27 Tryz.prog E t0 h R = vcFun Tryz.prog H27 E Tryz.f27.results.toList _ [t0] h R from by kernel_rfl) hs)

def H28 : Hints := { r := fun _ => none, s := fun _ => none, l := fun _ => none, d := fun _ => none }
def S28 (P : Program) (E : List PanicEntry → Heap → Prop) (t0 : Value) (h : Heap) (R : Value → Heap → Prop) : Prop :=
  Reads P (nilS t0) h fun t4 =>
  Reads P (Instr.fieldAt 57 t4 2) h fun t5 =>
  pLoad P 4 t5 h fun t6 =>
  boolV t6 fun b1 => bcase b1 (
    R (.int .i64 4) h) (
    R (.int .i64 3) h)
theorem C28 {E : List PanicEntry → Heap → Prop} {t0 : Value} {h : Heap} {R : Value → Heap → Prop} (hs : S28 Tryz.prog E t0 h R) : CallsH Tryz.prog 28 #[t0] h R E :=
  calls_of_vc H28 Tryz.mixed Tryz.func28 rfl (by kernel_rfl) (by kernel_rfl) (Eq.mp (show S28 Tryz.prog E t0 h R = vcFun Tryz.prog H28 E Tryz.f28.results.toList _ [t0] h R from by kernel_rfl) hs)

def H30 : Hints := { r := fun _ => none, s := fun i => match i with | 5 => some [] | 9 => some [] | _ => none, l := fun _ => none, d := fun _ => none }
def S30 (P : Program) (E : List PanicEntry → Heap → Prop) (t0 t1 : Value) (h : Heap) (R : Value → Heap → Prop) : Prop :=
  Reads P (binS .eql 26 true t0 .nilIface) h fun t9 =>
  boolV t9 fun b1 => bcase b1 (
    R (.bool false) h) (
    Join0 (fun J2 =>
    Reads P (binS .eql 20 true t1 .nilIface) h fun t11 =>
    boolV t11 fun b3 => bcase b3 (
      Reads P (Instr.makeInterface 9 (str [101, 114, 114, 111, 114, 115, 58, 32, 116, 97, 114, 103, 101, 116, 32, 99, 97, 110, 110, 111, 116, 32, 98, 101, 32, 110, 105, 108])) h fun t12 =>
      Runs P (vS (Instr.panic t12)) h (fun u4 h1 =>
      J2 h1) E) (
      J2 h))
  (fun h2 =>
  Runs P ((do let d ← Deferred.ofValue (.func (.func 51) #[] #[]) #[t1]; invoke d.target d.args)) h2 (fun t14 h3 =>
  pAlloc P 94 h3 fun t5 h4 =>
  pStore P 94 t5 t14 h4 fun h5 =>
  pLoad P 94 t5 h5 fun t15 =>
  Runs P ((do let d ← Deferred.ofValue (.func (.func 52) #[] #[]) #[t15]; invoke d.target d.args)) h5 (fun t16 h6 =>
  Join0 (fun J5 =>
    Runs P (invoke (.fn (.method "Kind") #[]) (#[t16] ++ #[])) h6 (fun t18 h7 =>
    Reads P (binS .neq 99 true t18 (.int .u8 22)) h7 fun t19 =>
    boolV t19 fun b6 => bcase b6 (
    Reads P (Instr.makeInterface 9 (str [101, 114, 114, 111, 114, 115, 58, 32, 116, 97, 114, 103, 101, 116, 32, 109, 117, 115, 116, 32, 98, 101, 32, 97, 32, 110, 111, 110, 45, 110, 105, 108, 32, 112, 111, 105, 110, 116, 101, 114])) h7 fun t24 =>
    Runs P (vS (Instr.panic t24)) h7 (fun u7 h8 =>
    J5 h8) E) (
    pLoad P 94 t5 h7 fun t21 =>
    Runs P ((do let d ← Deferred.ofValue (.func (.func 53) #[] #[]) #[t21]; invoke d.target d.args)) h7 (fun t22 h9 =>
    boolV t22 fun b8 => bcase b8 (
      Reads P (Instr.makeInterface 9 (str [101, 114, 114, 111, 114, 115, 58, 32, 116, 97, 114, 103, 101, 116, 32, 109, 117, 115, 116, 32, 98, 101, 32, 97, 32, 110, 111, 110, 45, 110, 105, 108, 32, 112, 111, 105, 110, 116, 101, 114])) h9 fun t24_2 =>
      Runs P (vS (Instr.panic t24_2)) h9 (fun u9 h10 =>
      J5 h10) E) (
      J5 h9)) E)) E)
  (fun h11 =>
  Runs P (invoke (.fn (.method "Elem") #[]) (#[t16] ++ #[])) h11 (fun t26 h12 =>
  Runs P (invoke (.fn (.method "Kind") #[]) (#[t26] ++ #[])) h12 (fun t28 h13 =>
  Reads P (binS .neq 99 true t28 (.int .u8 20)) h13 fun t29 =>
  boolV t29 fun b10 => bcase b10 (
  pLoad P 97 (.pointer (some ⟨10, 0, none⟩)) h13 fun t32 =>
  Runs P (invoke (.fn (.method "Implements") #[]) (#[t26] ++ #[t32])) h13 (fun t33 h14 =>
  Reads P (Op.unary .not t33) h14 fun t34 =>
  boolV t34 fun b11 => bcase b11 (
    Reads P (Instr.makeInterface 9 (str [101, 114, 114, 111, 114, 115, 58, 32, 42, 116, 97, 114, 103, 101, 116, 32, 109, 117, 115, 116, 32, 98, 101, 32, 105, 110, 116, 101, 114, 102, 97, 99, 101, 32, 111, 114, 32, 105, 109, 112, 108, 101, 109, 101, 110, 116, 32, 101, 114, 114, 111, 114])) h14 fun t36 =>
    Runs P (vS (Instr.panic t36)) h14 (fun u12 h15 =>
    pLoad P 94 t5 h15 fun t39 =>
  CallsH P 54 #[t0, t1, t39, t26] h15 (fun t41 h16 =>
  R t41 h16) E) E) (
    pLoad P 94 t5 h14 fun t39_2 =>
  CallsH P 54 #[t0, t1, t39_2, t26] h14 (fun t41_2 h17 =>
  R t41_2 h17) E)) E) (
  pLoad P 94 t5 h13 fun t39_3 =>
  CallsH P 54 #[t0, t1, t39_3, t26] h13 (fun t41_3 h18 =>
  R t41_3 h18) E)) E) E)) E) E))
theorem C30 {E : List PanicEntry → Heap → Prop} {t0 t1 : Value} {h : Heap} {R : Value → Heap → Prop} (hs : S30 Tryz.prog E t0 t1 h R) : CallsH Tryz.prog 30 #[t0, t1] h R E :=
  calls_of_vc H30 Tryz.mixed Tryz.func30 rfl (by kernel_rfl) (by kernel_rfl) (Eq.mp (show S30 Tryz.prog E t0 t1 h R = vcFun Tryz.prog H30 E Tryz.f30.results.toList _ [t0, t1] h R from by kernel_rfl) hs)

def H31 : Hints := { r := fun _ => none, s := fun i => match i with | 5 => some [] | _ => none, l := fun _ => none, d := fun _ => none }
def S31 (P : Program) (E : List PanicEntry → Heap → Prop) (t0 : Value) (h : Heap) (R : Value → Heap → Prop) : Prop :=
  pAlloc P 36 h fun t2 h1 =>
  pAlloc P 36 h1 fun t3 h2 =>
  Join0 (fun J1 =>
    Reads P (nilS t0) h2 fun t5 =>
    Reads P (Instr.fieldAt 57 t5 2) h2 fun t6 =>
    pLoad P 4 t6 h2 fun t7 =>
    boolV t7 fun b2 => bcase b2 (
      CallsH P 55 #[t0] h2 (fun t9 h3 =>
      pStore P 36 t3 t9 h3 fun h4 =>
      J1 h4) E) (
      CallsH P 56 #[t0] h2 (fun t11 h5 =>
      pStore P 36 t3 t11 h5 fun h6 =>
      J1 h6) E))
  (fun h7 =>
  CallsH P 57 #[t0] h7 (fun t13 h8 =>
  Reads P (Op.unary .not t13) h8 fun t14 =>
  boolV t14 fun b3 => bcase b3 (
    Reads P (nilS t0) h8 fun t17 =>
    Reads P (Instr.fieldAt 57 t17 1) h8 fun t18 =>
    pLoad P 3 t18 h8 fun t19 =>
    CallsH P 58 #[t0, (.int .i64 9), t19] h8 (fun t20 h9 =>
    pLoad P 36 t3 h9 fun t21 =>
  pStore P 36 t2 t21 h9 fun h10 =>
  pLoad P 36 t2 h10 fun r4 => R r4 h10) E) (
    pLoad P 36 t3 h8 fun t21_2 =>
  pStore P 36 t2 t21_2 h8 fun h11 =>
  pLoad P 36 t2 h11 fun r5 => R r5 h11)) E)
theorem C31 {E : List PanicEntry → Heap → Prop} {t0 : Value} {h : Heap} {R : Value → Heap → Prop} (hs : S31 Tryz.prog E t0 h R) : CallsH Tryz.prog 31 #[t0] h R E :=
  calls_of_vc H31 Tryz.mixed Tryz.func31 rfl (by kernel_rfl) (by kernel_rfl) (Eq.mp (show S31 Tryz.prog E t0 h R = vcFun Tryz.prog H31 E Tryz.f31.results.toList _ [t0] h R from by kernel_rfl) hs)

def H32 : Hints := { r := fun _ => none, s := fun _ => none, l := fun i => match i with | 4 => some [11] | _ => none, d := fun i => match i with | 6 => some (.cut 2 (.take 0 (.take 1 (.take 2 (.act 3 (.act 4 (.cut 0 (.act 5 (.cut 1 (.take 6 (.cut 0 (.act 7 .done .stop)))) .stop)) .stop) .stop))))) | _ => none }
def S32 (P : Program) (E : List PanicEntry → Heap → Prop) (t0 : Value) (h : Heap) (R : Value → Heap → Prop) : Prop :=
  pNew 36 t0 h fun t1 h1 =>
  pAlloc P 36 h1 fun t2 h2 =>
  Reads P (Instr.fieldAt 36 t1 5) h2 fun t6 =>
  pLoad P 34 t6 h2 fun t7 =>
  Reads P (Instr.fieldAt 36 t1 5) h2 fun t8 =>
  pStore P 34 t8 (.slice none 0 0) h2 fun h3 =>
  Reads P (builtinS .len #[34] 3 #[t7]) h3 fun t10 =>
  Loop1 (.int .i64 0) h3 (fun C1 t11 h4 =>
    Reads P (binS .lss 3 false t11 t10) h4 fun t12 =>
    boolV t12 fun b2 => bcase b2 (
      Reads P (Instr.indexAt 34 t7 t11) h4 fun t13 =>
    pLoad P 36 t13 h4 fun t14 =>
    pAlloc P 36 h4 fun t5 h5 =>
    pStore P 36 t5 t14 h5 fun h6 =>
    Stable h6 fun S3 =>
    ReadsS P (Instr.fieldAt 36 t1 5) S3 fun t15 =>
    pLoadS P 34 t15 S3 fun t16 =>
    pLoadS P 36 t5 S3 fun t17 =>
    (CallsH P 32 #[t17] h6 (fun t18 h7 =>
    S3 h7 ∧ ((Runs P (vS (Instr.buildSlice 34 1 #[(0, t18)])) h7 (fun t19 h8 =>
    S3 h8 ∧ ((Runs P (builtin .append #[34, 34] 34 #[false, false] #[t16, t19]) h8 (fun t20 h9 =>
    True ∧ (Reads P (Instr.fieldAt 36 t1 5) h9 fun t21 =>
    (pStore P 34 t21 t20 h9 fun h10 =>
    True ∧ (Reads P (binS .add 3 true t11 (.int .i64 1)) h10 fun t22 =>
    C1 t22 h10)) ∧ True)) E) ∧ True)) E) ∧ True)) E) ∧ True) (
      pLoad P 36 t1 h4 fun t23 =>
  pStore P 36 t2 t23 h4 fun h11 =>
  pLoad P 36 t2 h11 fun r4 => R r4 h11))
theorem C32 {E : List PanicEntry → Heap → Prop} {t0 : Value} {h : Heap} {R : Value → Heap → Prop} (hs : S32 Tryz.prog E t0 h R) : CallsH Tryz.prog 32 #[t0] h R E :=
  calls_of_vc H32 Tryz.mixed Tryz.func32 rfl (by kernel_rfl) (by kernel_rfl) (Eq.mp (show S32 Tryz.prog E t0 h R = vcFun Tryz.prog H32 E Tryz.f32.results.toList _ [t0] h R from by kernel_rfl) hs)

def H33 : Hints := { r := fun _ => none, s := fun _ => none, l := fun _ => none, d := fun _ => none }
def S33 (P : Program) (E : List PanicEntry → Heap → Prop) (t0 t1 : Value) (h : Heap) (R : Value → Heap → Prop) : Prop :=
  pNew 33 t0 h fun t2 h1 =>
  pAlloc P 33 h1 fun t4 h2 =>
  Reads P (binS .quo 5 true t1 (.int .u8 64)) h2 fun t6 =>
  Reads P (Instr.indexAt 33 t2 t6) h2 fun t7 =>
  pLoad P 31 t7 h2 fun t8 =>
  Reads P (binS .rem 5 true t1 (.int .u8 64)) h2 fun t10 =>
  Reads P (binS .shl 31 true (.int .u64 1) t10) h2 fun t11 =>
  Reads P (binS .or 31 false t8 t11) h2 fun t12 =>
  Reads P (Instr.indexAt 33 t2 t6) h2 fun t13 =>
  pStore P 31 t13 t12 h2 fun h3 =>
  pLoad P 33 t2 h3 fun t14 =>
  pStore P 33 t4 t14 h3 fun h4 =>
  pLoad P 33 t4 h4 fun r1 => R r1 h4
theorem C33 {E : List PanicEntry → Heap → Prop} {t0 t1 : Value} {h : Heap} {R : Value → Heap → Prop} (hs : S33 Tryz.prog E t0 t1 h R) : CallsH Tryz.prog 33 #[t0, t1] h R E :=
  calls_of_vc H33 Tryz.mixed Tryz.func33 rfl (by kernel_rfl) (by kernel_rfl) (Eq.mp (show S33 Tryz.prog E t0 t1 h R = vcFun Tryz.prog H33 E Tryz.f33.results.toList _ [t0, t1] h R from by kernel_rfl) hs)

def H34 : Hints := { r := fun _ => none, s := fun _ => none, l := fun _ => none, d := fun _ => none }
def S34 (P : Program) (E : List PanicEntry → Heap → Prop) (t0 t1 t2 : Value) (h : Heap) (R : Value → Heap → Prop) : Prop :=
  pAlloc P 42 h fun t6 h1 =>
  Reads P (Instr.build 42 #[(0, t0), (1, t1), (2, t2)]) h1 fun t10 =>
  pStore P 42 t6 t10 h1 fun h2 =>
  pLoad P 42 t6 h2 fun r1 => R r1 h2
theorem C34 {E : List PanicEntry → Heap → Prop} {t0 t1 t2 : Value} {h : Heap} {R : Value → Heap → Prop} (hs : S34 Tryz.prog E t0 t1 t2 h R) : CallsH Tryz.prog 34 #[t0, t1, t2] h R E :=
  calls_of_vc H34 Tryz.mixed Tryz.func34 rfl (by kernel_rfl) (by kernel_rfl) (Eq.mp (show S34 Tryz.prog E t0 t1 t2 h R = vcFun Tryz.prog H34 E Tryz.f34.results.toList _ [t0, t1, t2] h R from by kernel_rfl) hs)

def H35 : Hints := { r := fun _ => none, s := fun _ => none, l := fun _ => none, d := fun _ => none }
def S35 (P : Program) (E : List PanicEntry → Heap → Prop) (t0 : Value) (h : Heap) (R : Value → Heap → Prop) : Prop :=
  Reads P (nilS t0) h fun t4 =>
  Reads P (Instr.fieldAt 71 t4 2) h fun t5 =>
  pLoad P 4 t5 h fun t6 =>
  boolV t6 fun b1 => bcase b1 (
    R (.int .i64 4) h) (
    R (.int .i64 3) h)
theorem C35 {E : List PanicEntry → Heap → Prop} {t0 : Value} {h : Heap} {R : Value → Heap → Prop} (hs : S35 Tryz.prog E t0 h R) : CallsH Tryz.prog 35 #[t0] h R E :=
  calls_of_vc H35 Tryz.mixed Tryz.func35 rfl (by kernel_rfl) (by kernel_rfl) (Eq.mp (show S35 Tryz.prog E t0 h R = vcFun Tryz.prog H35 E Tryz.f35.results.toList _ [t0] h R from by kernel_rfl) hs)

def H36 : Hints := { r := fun _ => none, s := fun _ => none, l := fun _ => none, d := fun i => match i with | 1 => some (.cut 1 (.take 0 (.take 1 (.take 2 (.take 3 (.take 4 (.take 5 (.take 6 (.take 7 (.take 8 (.take 9 (.take 10 (.take 11 (.take 12 (.take 13 (.take 14 (.take 15 (.take 16 (.take 17 (.take 18 (.take 19 (.take 20 (.take 21 (.take 22 (.take 23 (.take 24 (.take 25 (.take 26 (.take 27 (.take 28 (.take 29 (.take 30 (.take 31 (.take 32 (.take 33 (.take 34 .done)))))))))))))))))))))))))))))))))))) | _ => none }
def S36 (P : Program) (E : List PanicEntry → Heap → Prop) (t0 t1 : Value) (h : Heap) (R : Value → Heap → Prop) : Prop :=
  Reads P (nilS t0) h fun t6 =>
  Reads P (Instr.fieldAt 71 t6 0) h fun t7 =>
  pLoad P 29 t7 h fun t8 =>
  Reads P (builtinS .len #[29] 3 #[t8]) h fun t9 =>
  Reads P (nilS t0) h fun t11 =>
  Reads P (Instr.fieldAt 71 t11 1) h fun t12 =>
  pLoad P 3 t12 h fun t13 =>
  Reads P (binS .sub 3 false t9 t13) h fun t14 =>
  Reads P (builtinS .len #[9] 3 #[t1]) h fun t16 =>
  Reads P (binS .geq 3 false t14 t16) h fun t17 =>
  boolV t17 fun b1 => bcase b1 (
  Reads P (nilS t0) h fun t20 =>
  Reads P (Instr.fieldAt 71 t20 0) h fun t21 =>
  pLoad P 29 t21 h fun t22 =>
  Reads P (nilS t0) h fun t24 =>
  Reads P (Instr.fieldAt 71 t24 1) h fun t25 =>
  pLoad P 3 t25 h fun t26 =>
  Reads P (nilS t0) h fun t28 =>
  Reads P (Instr.fieldAt 71 t28 1) h fun t29 =>
  pLoad P 3 t29 h fun t30 =>
  Reads P (builtinS .len #[9] 3 #[t1]) h fun t32 =>
  Reads P (binS .add 3 false t30 t32) h fun t33 =>
  Reads P (Instr.sliceAt 29 t22 (some t26) (some t33) none) h fun t34 =>
  Reads P (convert 29 9 t34) h fun t35 =>
  Reads P (binS .eql 9 false t35 t1) h fun t37 =>
  R t37 h) (
  R (.bool false) h)
theorem C36 {E : List PanicEntry → Heap → Prop} {t0 t1 : Value} {h : Heap} {R : Value → Heap → Prop} (hs : S36 Tryz.prog E t0 t1 h R) : CallsH Tryz.prog 36 #[t0, t1] h R E :=
  calls_of_vc H36 Tryz.mixed Tryz.func36 rfl (by kernel_rfl) (by kernel_rfl) (Eq.mp (show S36 Tryz.prog E t0 t1 h R = vcFun Tryz.prog H36 E Tryz.f36.results.toList _ [t0, t1] h R from by kernel_rfl) hs)

def H37 : Hints := { r := fun _ => none, s := fun _ => none, l := fun _ => none, d := fun _ => none }
def S37 (P : Program) (E : List PanicEntry → Heap → Prop) (t0 t1 t2 : Value) (h : Heap) (R : Value → Heap → Prop) : Prop :=
  pAlloc P 36 h fun t6 h1 =>
  Reads P (nilS t0) h1 fun t8 =>
  Reads P (Instr.fieldAt 71 t8 4) h1 fun t9 =>
  Reads P (Instr.fieldAt 42 t9 0) h1 fun t10 =>
  pLoad P 3 t10 h1 fun t11 =>
  Reads P (binS .eql 3 true t11 (.int .i64 0)) h1 fun t12 =>
  boolV t12 fun b1 => bcase b1 (
    CallsH P 35 #[t0] h1 (fun t17 h2 =>
    CallsH P 34 #[t1, t2, t17] h2 (fun t18 h3 =>
    Reads P (nilS t0) h3 fun t19 =>
    Reads P (Instr.fieldAt 71 t19 4) h3 fun t20 =>
    pStore P 42 t20 t18 h3 fun h4 =>
    Reads P (Instr.build 36 #[]) h4 fun t21 =>
  pStore P 36 t6 t21 h4 fun h5 =>
  pLoad P 36 t6 h5 fun r2 => R r2 h5) E) E) (
    Reads P (Instr.build 36 #[]) h1 fun t21_2 =>
  pStore P 36 t6 t21_2 h1 fun h6 =>
  pLoad P 36 t6 h6 fun r3 => R r3 h6)
theorem C37 {E : List PanicEntry → Heap → Prop} {t0 t1 t2 : Value} {h : Heap} {R : Value → Heap → Prop} (hs : S37 Tryz.prog E t0 t1 t2 h R) : CallsH Tryz.prog 37 #[t0, t1, t2] h R E :=
  calls_of_vc H37 Tryz.mixed Tryz.func37 rfl (by kernel_rfl) (by kernel_rfl) (Eq.mp (show S37 Tryz.prog E t0 t1 t2 h R = vcFun Tryz.prog H37 E Tryz.f37.results.toList _ [t0, t1, t2] h R from by kernel_rfl) hs)

def H38 : Hints := { r := fun _ => none, s := fun i => match i with | 5 => some [] | _ => none, l := fun i => match i with | 2 => some [3] | _ => none, d := fun _ => none }
def S38 (P : Program) (E : List PanicEntry → Heap → Prop) (t0 : Value) (h : Heap) (R : Value → Heap → Prop) : Prop :=
  pAlloc P 36 h fun t2 h1 =>
  Loop1 (.slice none 0 0) h1 (fun C1 t3 h2 =>
    CallsH P 59 #[t0] h2 (fun t6 h3 =>
    Runs P (vS (Instr.buildSlice 34 1 #[(0, t6)])) h3 (fun t7 h4 =>
    Runs P (builtin .append #[34, 34] 34 #[false, false] #[t3, t7]) h4 (fun t8 h5 =>
    Join0 (fun J2 =>
      CallsH P 40 #[t0] h5 (fun t10 h6 =>
      boolV t10 fun b3 => bcase b3 (
      CallsH P 60 #[(.int .i64 5), t8] h6 (fun t17 h7 =>
      pStore P 36 t2 t17 h7 fun h8 =>
      pLoad P 36 t2 h8 fun r4 => R r4 h8) E) (
      CallsH P 36 #[t0, (str [124])] h6 (fun t13 h9 =>
      Reads P (Op.unary .not t13) h9 fun t14 =>
      boolV t14 fun b5 => bcase b5 (
        CallsH P 60 #[(.int .i64 5), t8] h9 (fun t17_2 h10 =>
        pStore P 36 t2 t17_2 h10 fun h11 =>
        pLoad P 36 t2 h11 fun r6 => R r6 h11) E) (
        J2 h9)) E)) E)
    (fun h12 =>
    Reads P (nilS t0) h12 fun t19 =>
    Reads P (Instr.fieldAt 71 t19 1) h12 fun t20 =>
    pLoad P 3 t20 h12 fun t21 =>
    Reads P (binS .add 3 true t21 (.int .i64 1)) h12 fun t22 =>
    Reads P (nilS t0) h12 fun t23 =>
    Reads P (Instr.fieldAt 71 t23 1) h12 fun t24 =>
    pStore P 3 t24 t22 h12 fun h13 =>
    C1 t8 h13)) E) E) E)
theorem C38 {E : List PanicEntry → Heap → Prop} {t0 : Value} {h : Heap} {R : Value → Heap → Prop} (hs : S38 Tryz.prog E t0 h R) : CallsH Tryz.prog 38 #[t0] h R E :=
  calls_of_vc H38 Tryz.mixed Tryz.func38 rfl (by kernel_rfl) (by kernel_rfl) (Eq.mp (show S38 Tryz.prog E t0 h R = vcFun Tryz.prog H38 E Tryz.f38.results.toList _ [t0] h R from by kernel_rfl) hs)

def H39 : Hints := { r := fun _ => none, s := fun i => match i with | 5 => some [3] | 8 => some [] | 9 => some [65] | 12 => some [81] | _ => none, l := fun i => match i with | 6 => some [3, 4] | _ => none, d := fun i => match i with | 8 => some (.cut 1 (.take 0 (.cut 0 (.act 1 (.cut 1 (.take 2 (.take 3 (.take 4 (.take 5 (.take 6 (.take 7 (.take 8 (.take 9 (.take 10 (.take 11 (.take 12 (.take 13 (.take 14 (.take 15 (.take 16 (.take 17 (.take 18 (.take 19 (.take 20 (.take 21 (.take 22 (.take 23 (.take 24 (.take 25 (.take 26 (.take 27 (.take 28 (.take 29 (.take 30 (.take 31 (.take 32 (.take 33 (.take 34 (.take 35 (.take 36 (.take 37 (.take 38 (.take 39 .done))))))))))))))))))))))))))))))))))))))) .stop)))) | _ => none }
def S39 (P : Program) (E : List PanicEntry → Heap → Prop) (t0 : Value) (h : Heap) (R : Value → Heap → Prop) : Prop :=
  pAlloc P 36 h fun t2 h1 =>
  Join1 (fun J1 =>
    CallsH P 36 #[t0, (str [94])] h1 (fun t6 h2 =>
    boolV t6 fun b2 => bcase b2 (
      Reads P (nilS t0) h2 fun t8 =>
      Reads P (Instr.fieldAt 71 t8 1) h2 fun t9 =>
      pLoad P 3 t9 h2 fun t10 =>
      Reads P (binS .add 3 true t10 (.int .i64 1)) h2 fun t11 =>
      Reads P (nilS t0) h2 fun t12 =>
      Reads P (Instr.fieldAt 71 t12 1) h2 fun t13 =>
      pStore P 3 t13 t11 h2 fun h3 =>
      Reads P (Instr.build 36 #[(0, (.int .i64 2))]) h3 fun t15 =>
      Runs P (vS (Instr.buildSlice 34 1 #[(0, t15)])) h3 (fun t16 h4 =>
      Runs P (builtin .append #[34, 34] 34 #[false, false] #[(.slice none 0 0), t16]) h4 (fun t17 h5 =>
      J1 t17 h5) E) E) (
      J1 (.slice none 0 0) h2)) E)
  (fun t3 h6 =>
  Loop2 t3 (.bool true) h6 (fun C3 t3_2 t4 h7 =>
    Join0 (fun J4 =>
      CallsH P 61 #[t0] h7 (fun t19 h8 =>
      Reads P (Op.unary .not t19) h8 fun t20 =>
      boolV t20 fun b5 => bcase b5 (
      CallsH P 40 #[t0] h8 (fun t23 h9 =>
      Reads P (Op.unary .not t23) h9 fun t24 =>
      boolV t24 fun b6 => bcase b6 (
        J4 h9) (
        Reads P (builtinS .len #[34] 3 #[t3_2]) h9 fun t103 =>
  Reads P (binS .eql 3 true t103 (.int .i64 0)) h9 fun t104 =>
  boolV t104 fun b7 => bcase b7 (
    Reads P (nilS t0) h9 fun t107 =>
    Reads P (Instr.fieldAt 71 t107 1) h9 fun t108 =>
    pLoad P 3 t108 h9 fun t109 =>
    CallsH P 37 #[t0, (.int .i64 3), t109] h9 (fun t110 h10 =>
    pStore P 36 t2 t110 h10 fun h11 =>
    pLoad P 36 t2 h11 fun r8 => R r8 h11) E) (
    CallsH P 60 #[(.int .i64 4), t3_2] h9 (fun t112 h12 =>
  pStore P 36 t2 t112 h12 fun h13 =>
  pLoad P 36 t2 h13 fun r9 => R r9 h13) E))) E) (
      Reads P (builtinS .len #[34] 3 #[t3_2]) h8 fun t103_2 =>
  Reads P (binS .eql 3 true t103_2 (.int .i64 0)) h8 fun t104_2 =>
  boolV t104_2 fun b10 => bcase b10 (
    Reads P (nilS t0) h8 fun t107_2 =>
    Reads P (Instr.fieldAt 71 t107_2 1) h8 fun t108_2 =>
    pLoad P 3 t108_2 h8 fun t109_2 =>
    CallsH P 37 #[t0, (.int .i64 3), t109_2] h8 (fun t110_2 h14 =>
    pStore P 36 t2 t110_2 h14 fun h15 =>
    pLoad P 36 t2 h15 fun r11 => R r11 h15) E) (
    CallsH P 60 #[(.int .i64 4), t3_2] h8 (fun t112_2 h16 =>
  pStore P 36 t2 t112_2 h16 fun h17 =>
  pLoad P 36 t2 h17 fun r12 => R r12 h17) E))) E)
    (fun h18 =>
    Join1 (fun J13 =>
      (CallsH P 36 #[t0, (str [36])] h18 (fun t27 h19 =>
      True ∧ (boolV t27 fun b14 => bcase b14 (
      Reads P (nilS t0) h19 fun t30 =>
      Reads P (Instr.fieldAt 71 t30 1) h19 fun t31 =>
      pLoad P 3 t31 h19 fun t32 =>
      Reads P (binS .add 3 true t32 (.int .i64 1)) h19 fun t33 =>
      Reads P (nilS t0) h19 fun t35 =>
      Reads P (Instr.fieldAt 71 t35 0) h19 fun t36 =>
      pLoad P 29 t36 h19 fun t37 =>
      Reads P (builtinS .len #[29] 3 #[t37]) h19 fun t38 =>
      Reads P (binS .eql 3 false t33 t38) h19 fun t39 =>
      boolV t39 fun b15 => bcase b15 (
      J13 (.bool true) h19) (
      Reads P (nilS t0) h19 fun t42 =>
      Reads P (Instr.fieldAt 71 t42 0) h19 fun t43 =>
      pLoad P 29 t43 h19 fun t44 =>
      Reads P (nilS t0) h19 fun t46 =>
      Reads P (Instr.fieldAt 71 t46 1) h19 fun t47 =>
      pLoad P 3 t47 h19 fun t48 =>
      Reads P (binS .add 3 true t48 (.int .i64 1)) h19 fun t49 =>
      Reads P (nilS t0) h19 fun t51 =>
      Reads P (Instr.fieldAt 71 t51 0) h19 fun t52 =>
      pLoad P 29 t52 h19 fun t53 =>
      Reads P (builtinS .len #[29] 3 #[t53]) h19 fun t54 =>
      Reads P (nilS t0) h19 fun t56 =>
      Reads P (Instr.fieldAt 71 t56 1) h19 fun t57 =>
      pLoad P 3 t57 h19 fun t58 =>
      Reads P (binS .add 3 true t58 (.int .i64 3)) h19 fun t59 =>
      Reads P (builtinS .min #[3, 3] 3 #[t54, t59]) h19 fun t60 =>
      Reads P (Instr.sliceAt 29 t44 (some t49) (some t60) none) h19 fun t61 =>
      Reads P (convert 29 9 t61) h19 fun t62 =>
      Reads P (binS .eql 9 true t62 (str [92, 41])) h19 fun t63 =>
      J13 t63 h19)) (
      (undef = undef ∧ ((undef = undef ∧ ((undef = undef ∧ ((undef = undef ∧ ((undef = undef ∧ ((undef = undef ∧ ((undef = undef ∧ ((undef = undef ∧ ((undef = undef ∧ ((undef = undef ∧ ((undef = undef ∧ ((undef = undef ∧ ((undef = undef ∧ ((undef = undef ∧ ((undef = undef ∧ ((undef = undef ∧ ((undef = undef ∧ ((undef = undef ∧ ((undef = undef ∧ ((undef = undef ∧ ((undef = undef ∧ ((undef = undef ∧ ((undef = undef ∧ (J13 (.bool false) h19))))))))))))))))))))))))))))))))))))))))))))))))) E) ∧ True)
    (fun t65 h20 =>
    boolV t65 fun b16 => bcase b16 (
      Reads P (nilS t0) h20 fun t67 =>
      Reads P (Instr.fieldAt 71 t67 1) h20 fun t68 =>
      pLoad P 3 t68 h20 fun t69 =>
      Reads P (binS .add 3 true t69 (.int .i64 1)) h20 fun t70 =>
      Reads P (nilS t0) h20 fun t71 =>
      Reads P (Instr.fieldAt 71 t71 1) h20 fun t72 =>
      pStore P 3 t72 t70 h20 fun h21 =>
      Reads P (Instr.build 36 #[(0, (.int .i64 3))]) h21 fun t74 =>
      Runs P (vS (Instr.buildSlice 34 1 #[(0, t74)])) h21 (fun t75 h22 =>
      Runs P (builtin .append #[34, 34] 34 #[false, false] #[t3_2, t75]) h22 (fun t76 h23 =>
      C3 t76 (.bool false) h23) E) E) (
      Join1 (fun J17 =>
      boolV t4 fun b18 => bcase b18 (
      CallsH P 36 #[t0, (str [42])] h20 (fun t80 h24 =>
      J17 t80 h24) E) (
      J17 (.bool false) h20))
    (fun t81 h25 =>
    boolV t81 fun b19 => bcase b19 (
      Reads P (nilS t0) h25 fun t83 =>
      Reads P (Instr.fieldAt 71 t83 1) h25 fun t84 =>
      pLoad P 3 t84 h25 fun t85 =>
      Reads P (binS .add 3 true t85 (.int .i64 1)) h25 fun t86 =>
      Reads P (nilS t0) h25 fun t87 =>
      Reads P (Instr.fieldAt 71 t87 1) h25 fun t88 =>
      pStore P 3 t88 t86 h25 fun h26 =>
      CallsH P 15 #[(.int .u8 42)] h26 (fun t91 h27 =>
      CallsH P 62 #[t0, t91] h27 (fun t92 h28 =>
      Runs P (vS (Instr.buildSlice 34 1 #[(0, t92)])) h28 (fun t93 h29 =>
      Runs P (builtin .append #[34, 34] 34 #[false, false] #[t3_2, t93]) h29 (fun t94 h30 =>
      C3 t94 (.bool false) h30) E) E) E) E) (
      CallsH P 63 #[t0] h25 (fun t98 h31 =>
    CallsH P 62 #[t0, t98] h31 (fun t99 h32 =>
    Runs P (vS (Instr.buildSlice 34 1 #[(0, t99)])) h32 (fun t100 h33 =>
    Runs P (builtin .append #[34, 34] 34 #[false, false] #[t3_2, t100]) h33 (fun t101 h34 =>
    C3 t101 (.bool false) h34) E) E) E) E)))))))
theorem C39 {E : List PanicEntry → Heap → Prop} {t0 : Value} {h : Heap} {R : Value → Heap → Prop} (hs : S39 Tryz.prog E t0 h R) : CallsH Tryz.prog 39 #[t0] h R E :=
  calls_of_vc H39 Tryz.mixed Tryz.func39 rfl (by kernel_rfl) (by kernel_rfl) (Eq.mp (show S39 Tryz.prog E t0 h R = vcFun Tryz.prog H39 E Tryz.f39.results.toList _ [t0] h R from by kernel_rfl) hs)

def H40 : Hints := { r := fun _ => none, s := fun _ => none, l := fun _ => none, d := fun _ => none }
def S40 (P : Program) (E : List PanicEntry → Heap → Prop) (t0 : Value) (h : Heap) (R : Value → Heap → Prop) : Prop :=
  Reads P (nilS t0) h fun t4 =>
  Reads P (Instr.fieldAt 71 t4 4) h fun t5 =>
  Reads P (Instr.fieldAt 42 t5 0) h fun t6 =>
  pLoad P 3 t6 h fun t7 =>
  Reads P (binS .neq 3 true t7 (.int .i64 0)) h fun t8 =>
  R t8 h
theorem C40 {E : List PanicEntry → Heap → Prop} {t0 : Value} {h : Heap} {R : Value → Heap → Prop} (hs : S40 Tryz.prog E t0 h R) : CallsH Tryz.prog 40 #[t0] h R E :=
  calls_of_vc H40 Tryz.mixed Tryz.func40 rfl (by kernel_rfl) (by kernel_rfl) (Eq.mp (show S40 Tryz.prog E t0 h R = vcFun Tryz.prog H40 E Tryz.f40.results.toList _ [t0] h R from by kernel_rfl) hs)

def H41 : Hints := { r := fun _ => none, s := fun _ => none, l := fun _ => none, d := fun i => match i with | 1 => some (.cut 1 (.take 0 (.take 1 (.take 2 (.take 3 (.take 4 (.take 5 (.take 6 (.take 7 (.take 8 (.take 9 (.take 10 .done)))))))))))) | _ => none }
def S41 (P : Program) (E : List PanicEntry → Heap → Prop) (t0 : Value) (h : Heap) (R : Value → Heap → Prop) : Prop :=
  Reads P (nilS t0) h fun t4 =>
  Reads P (Instr.fieldAt 71 t4 1) h fun t5 =>
  pLoad P 3 t5 h fun t6 =>
  Reads P (nilS t0) h fun t8 =>
  Reads P (Instr.fieldAt 71 t8 0) h fun t9 =>
  pLoad P 29 t9 h fun t10 =>
  Reads P (builtinS .len #[29] 3 #[t10]) h fun t11 =>
  Reads P (binS .geq 3 false t6 t11) h fun t12 =>
  R t12 h
theorem C41 {E : List PanicEntry → Heap → Prop} {t0 : Value} {h : Heap} {R : Value → Heap → Prop} (hs : S41 Tryz.prog E t0 h R) : CallsH Tryz.prog 41 #[t0] h R E :=
  calls_of_vc H41 Tryz.mixed Tryz.func41 rfl (by kernel_rfl) (by kernel_rfl) (Eq.mp (show S41 Tryz.prog E t0 h R = vcFun Tryz.prog H41 E Tryz.f41.results.toList _ [t0] h R from by kernel_rfl) hs)

def H42 : Hints := { r := fun _ => none, s := fun _ => none, l := fun i => match i with | 3 => some [5, 6] | _ => none, d := fun _ => none }
def S42 (P : Program) (E : List PanicEntry → Heap → Prop) (t0 t1 : Value) (h : Heap) (R : Value → Heap → Prop) : Prop :=
  Loop2 (.int .i64 0) (.int .i64 0) h (fun C1 t5 t6 h1 =>
    Reads P (binS .lss 3 false t6 t1) h1 fun t12 =>
    boolV t12 fun b2 => bcase b2 (
      Reads P (Instr.indexAt 29 t0 t6) h1 fun t17 =>
    pLoad P 5 t17 h1 fun t18 =>
    Reads P (binS .eql 5 true t18 (.int .u8 92)) h1 fun t20 =>
    boolV t20 fun b3 => bcase b3 (
      Reads P (binS .add 3 true t6 (.int .i64 1)) h1 fun t22 =>
      Reads P (binS .add 3 true t22 (.int .i64 1)) h1 fun t14 =>
    C1 t5 t14 h1) (
      Reads P (binS .eql 5 true t18 (.int .u8 91)) h1 fun t24 =>
      boolV t24 fun b4 => bcase b4 (
        Reads P (binS .add 3 true t6 (.int .i64 1)) h1 fun t28 =>
        CallsH P 64 #[t0, t28, (.int .i64 4)] h1 (fun t29 h2 =>
        Reads P (Instr.extract t29 0) h2 fun t30 =>
        Reads P (Instr.extract t29 1) h2 fun t31 =>
        Reads P (Instr.extract t29 2) h2 fun t32 =>
        pAlloc P 33 h2 fun t7 h3 =>
        pAlloc P 42 h3 fun t9 h4 =>
        pStore P 33 t7 t30 h4 fun h5 =>
        pStore P 42 t9 t32 h5 fun h6 =>
        Reads P (Instr.fieldAt 42 t9 0) h6 fun t33 =>
        pLoad P 3 t33 h6 fun t34 =>
        Reads P (binS .eql 3 true t34 (.int .i64 0)) h6 fun t35 =>
        boolV t35 fun b5 => bcase b5 (
          Reads P (binS .sub 3 true t31 (.int .i64 1)) h6 fun t37 =>
          Reads P (binS .add 3 true t37 (.int .i64 1)) h6 fun t14_2 =>
    C1 t5 t14_2 h6) (
          Reads P (binS .add 3 true t6 (.int .i64 1)) h6 fun t14_3 =>
    C1 t5 t14_3 h6)) E) (
        Reads P (binS .eql 5 true t18 (.int .u8 40)) h1 fun t39 =>
        boolV t39 fun b6 => bcase b6 (
          Reads P (binS .add 3 true t5 (.int .i64 1)) h1 fun t41 =>
          Reads P (binS .add 3 true t6 (.int .i64 1)) h1 fun t14_4 =>
    C1 t41 t14_4 h1) (
          Reads P (binS .eql 5 true t18 (.int .u8 41)) h1 fun t43 =>
          boolV t43 fun b7 => bcase b7 (
            Reads P (binS .sub 3 true t5 (.int .i64 1)) h1 fun t45 =>
            Reads P (binS .add 3 true t6 (.int .i64 1)) h1 fun t14_5 =>
    C1 t45 t14_5 h1) (
            Reads P (binS .add 3 true t6 (.int .i64 1)) h1 fun t14_6 =>
    C1 t5 t14_6 h1))))) (
      Reads P (binS .gtr 3 true t5 (.int .i64 0)) h1 fun t47 =>
  R t47 h1))
theorem C42 {E : List PanicEntry → Heap → Prop} {t0 t1 : Value} {h : Heap} {R : Value → Heap → Prop} (hs : S42 Tryz.prog E t0 t1 h R) : CallsH Tryz.prog 42 #[t0, t1] h R E :=
  calls_of_vc H42 Tryz.mixed Tryz.func42 rfl (by kernel_rfl) (by kernel_rfl) (Eq.mp (show S42 Tryz.prog E t0 t1 h R = vcFun Tryz.prog H42 E Tryz.f42.results.toList _ [t0, t1] h R from by kernel_rfl) hs)

def H43 : Hints := { r := fun _ => none, s := fun _ => none, l := fun _ => none, d := fun _ => none }
def S43 (P : Program) (E : List PanicEntry → Heap → Prop) (t0 t1 : Value) (h : Heap) (R : Value → Heap → Prop) : Prop :=
  CallsH P 27 #[t1] h (fun t7 h1 =>
  Reads P (binS .neq 26 true t0 .nilIface) h1 fun t9 =>
  boolV t9 fun b1 => bcase b1 (
  Reads P (binS .neq 26 true t7 .nilIface) h1 fun t12 =>
  boolV t12 fun b2 => bcase b2 (
  CallsH P 65 #[t0, t7] h1 (fun t17 h2 =>
  R t17 h2) E) (
  R (.bool false) h1)) (
  R (.bool false) h1)) E
theorem C43 {E : List PanicEntry → Heap → Prop} {t0 t1 : Value} {h : Heap} {R : Value → Heap → Prop} (hs : S43 Tryz.prog E t0 t1 h R) : CallsH Tryz.prog 43 #[t0, t1] h R E :=
  calls_of_vc H43 Tryz.mixed Tryz.func43 rfl (by kernel_rfl) (by kernel_rfl) (Eq.mp (show S43 Tryz.prog E t0 t1 h R = vcFun Tryz.prog H43 E Tryz.f43.results.toList _ [t0, t1] h R from by kernel_rfl) hs)

def H44 : Hints := { r := fun _ => none, s := fun i => match i with | 18 => some [4] | 21 => some [] | _ => none, l := fun i => match i with | 22 => some [66] | _ => none, d := fun i => match i with | 3 => some (.cut 2 (.take 0 (.take 1 (.act 2 (.cut 1 (.take 3 .done)) .stop)))) | _ => none }
def S44 (P : Program) (E : List PanicEntry → Heap → Prop) (t0 t1 : Value) (h : Heap) (R : Value → Heap → Prop) : Prop :=
  pNew 36 t1 h fun t3 h1 =>
  Join0 (fun J1 =>
    Reads P (Instr.fieldAt 36 t3 0) h1 fun t7 =>
    pLoad P 3 t7 h1 fun t8 =>
    Reads P (binS .eql 3 true t8 (.int .i64 1)) h1 fun t10 =>
    boolV t10 fun b2 => bcase b2 (
      Stable h1 fun S3 =>
      ReadsS P (Instr.fieldAt 36 t3 1) S3 fun t11 =>
      pLoadS P 33 t11 S3 fun t12 =>
      (CallsH P 66 #[] h1 (fun t13 h2 =>
      S3 h2 ∧ (Reads P (binS .eql 33 false t12 t13) h2 fun t14 =>
      boolV t14 fun b4 => bcase b4 (
        CallsH P 67 #[t0, (str [46])] h2 (fun t16 h3 =>
        R (.tuple #[]) h3) E) (
        Reads P (Instr.fieldAt 36 t3 1) h2 fun t18 =>
        pLoad P 33 t18 h2 fun t19 =>
        CallsH P 68 #[t19] h2 (fun t20 h4 =>
        CallsH P 67 #[t0, t20] h4 (fun t21 h5 =>
        R (.tuple #[]) h5) E) E))) E) ∧ True) (
      Reads P (binS .eql 3 true t8 (.int .i64 2)) h1 fun t23 =>
      boolV t23 fun b5 => bcase b5 (
        CallsH P 67 #[t0, (str [94])] h1 (fun t25 h6 =>
        R (.tuple #[]) h6) E) (
        Reads P (binS .eql 3 true t8 (.int .i64 3)) h1 fun t27 =>
        boolV t27 fun b6 => bcase b6 (
          CallsH P 67 #[t0, (str [36])] h1 (fun t29 h7 =>
          R (.tuple #[]) h7) E) (
          Reads P (binS .eql 3 true t8 (.int .i64 4)) h1 fun t31 =>
          boolV t31 fun b7 => bcase b7 (
            CallsH P 67 #[t0, (str [40, 99, 97, 116])] h1 (fun t33 h8 =>
            J1 h8) E) (
            Reads P (binS .eql 3 true t8 (.int .i64 5)) h1 fun t35 =>
            boolV t35 fun b8 => bcase b8 (
              CallsH P 67 #[t0, (str [40, 97, 108, 116])] h1 (fun t37 h9 =>
              J1 h9) E) (
              Reads P (binS .eql 3 true t8 (.int .i64 6)) h1 fun t39 =>
              boolV t39 fun b9 => bcase b9 (
                Join1 (fun J10 =>
                  Reads P (Instr.fieldAt 36 t3 3) h1 fun t40 =>
                  pLoad P 3 t40 h1 fun t41 =>
                  Reads P (binS .geq 3 true t41 (.int .i64 0)) h1 fun t42 =>
                  boolV t42 fun b11 => bcase b11 (
                    Reads P (Instr.fieldAt 36 t3 3) h1 fun t43 =>
                    pLoad P 3 t43 h1 fun t44 =>
                    CallsH P 69 #[t44] h1 (fun t45 h10 =>
                    J10 t45 h10) E) (
                    J10 (str [45]) h1))
                (fun t4 h11 =>
                Reads P (Instr.fieldAt 36 t3 2) h11 fun t47 =>
                pLoad P 3 t47 h11 fun t48 =>
                CallsH P 69 #[t48] h11 (fun t49 h12 =>
                Reads P (binS .add 9 true (str [40, 114, 101, 112, 32]) t49) h12 fun t50 =>
                Reads P (binS .add 9 true t50 (str [32])) h12 fun t51 =>
                Reads P (binS .add 9 false t51 t4) h12 fun t53 =>
                CallsH P 67 #[t0, t53] h12 (fun t54 h13 =>
                J1 h13) E) E)) (
                Reads P (binS .eql 3 true t8 (.int .i64 7)) h1 fun t56 =>
                boolV t56 fun b12 => bcase b12 (
                  Reads P (Instr.fieldAt 36 t3 4) h1 fun t58 =>
                  pLoad P 3 t58 h1 fun t59 =>
                  CallsH P 69 #[t59] h1 (fun t60 h14 =>
                  Reads P (binS .add 9 true (str [40, 103, 114, 111, 117, 112, 32]) t60) h14 fun t61 =>
                  CallsH P 67 #[t0, t61] h14 (fun t62 h15 =>
                  J1 h15) E) E) (
                  J1 h1))))))))
  (fun h16 =>
  Reads P (Instr.fieldAt 36 t3 5) h16 fun t63 =>
  pLoad P 34 t63 h16 fun t64 =>
  Reads P (builtinS .len #[34] 3 #[t64]) h16 fun t65 =>
  Loop1 (.int .i64 0) h16 (fun C13 t66 h17 =>
    Reads P (binS .lss 3 false t66 t65) h17 fun t67 =>
    boolV t67 fun b14 => bcase b14 (
      Reads P (Instr.indexAt 34 t64 t66) h17 fun t68 =>
    pLoad P 36 t68 h17 fun t69 =>
    pAlloc P 36 h17 fun t6 h18 =>
    pStore P 36 t6 t69 h18 fun h19 =>
    CallsH P 70 #[t0, (.int .u8 32)] h19 (fun t71 h20 =>
    pLoad P 36 t6 h20 fun t73 =>
    CallsH P 44 #[t0, t73] h20 (fun t74 h21 =>
    Reads P (binS .add 3 true t66 (.int .i64 1)) h21 fun t75 =>
    C13 t75 h21) E) E) (
      CallsH P 70 #[t0, (.int .u8 41)] h17 (fun t77 h22 =>
  R (.tuple #[]) h22) E)))
theorem C44 {E : List PanicEntry → Heap → Prop} {t0 t1 : Value} {h : Heap} {R : Value → Heap → Prop} (hs : S44 Tryz.prog E t0 t1 h R) : CallsH Tryz.prog 44 #[t0, t1] h R E :=
  calls_of_vc H44 Tryz.mixed Tryz.func44 rfl (by kernel_rfl) (by kernel_rfl) (Eq.mp (show S44 Tryz.prog E t0 t1 h R = vcFun Tryz.prog H44 E Tryz.f44.results.toList _ [t0, t1] h R from by kernel_rfl) hs)

def H45 : Hints := { r := fun _ => none, s := fun _ => none, l := fun _ => none, d := fun i => match i with | 1 => some (.cut 1 (.take 0 (.take 1 (.take 2 (.take 3 (.take 4 (.take 5 (.take 6 (.take 7 (.take 8 (.take 9 (.cut 0 (.act 10 (.cut 1 (.take 11 .done)) .stop))))))))))))) | _ => none }
def S45 (P : Program) (E : List PanicEntry → Heap → Prop) (t0 : Value) (h : Heap) (R : Value → Heap → Prop) : Prop :=
  Reads P (nilS t0) h fun t4 =>
  Reads P (Instr.fieldAt 87 t4 1) h fun t5 =>
  pLoad P 29 t5 h fun t6 =>
  Reads P (builtinS .unsafeSliceData #[29] 113 #[t6]) h fun t7 =>
  Reads P (nilS t0) h fun t9 =>
  Reads P (Instr.fieldAt 87 t9 1) h fun t10 =>
  pLoad P 29 t10 h fun t11 =>
  Reads P (builtinS .len #[29] 3 #[t11]) h fun t12 =>
  (Runs P (builtin .unsafeString #[113, 3] 9 #[false, false] #[t7, t12]) h (fun t13 h1 =>
  True ∧ (R t13 h1)) E) ∧ True
theorem C45 {E : List PanicEntry → Heap → Prop} {t0 : Value} {h : Heap} {R : Value → Heap → Prop} (hs : S45 Tryz.prog E t0 h R) : CallsH Tryz.prog 45 #[t0] h R E :=
  calls_of_vc H45 Tryz.mixed Tryz.func45 rfl (by kernel_rfl) (by kernel_rfl) (Eq.mp (show S45 Tryz.prog E t0 h R = vcFun Tryz.prog H45 E Tryz.f45.results.toList _ [t0] h R from by kernel_rfl) hs)

def H46 : Hints := { r := fun _ => none, s := fun _ => none, l := fun i => match i with | 2 => some [4] | _ => none, d := fun _ => none }
def S46 (P : Program) (E : List PanicEntry → Heap → Prop) (t0 : Value) (h : Heap) (R : Value → Heap → Prop) : Prop :=
  pNew 33 t0 h fun t1 h1 =>
  pAlloc P 33 h1 fun t2 h2 =>
  Loop1 (.int .i64 0) h2 (fun C1 t4 h3 =>
    Reads P (binS .lss 3 true t4 (.int .i64 4)) h3 fun t5 =>
    boolV t5 fun b2 => bcase b2 (
      Reads P (Instr.indexAt 33 t1 t4) h3 fun t9 =>
    pLoad P 31 t9 h3 fun t10 =>
    Reads P (Op.unary .xor t10) h3 fun t11 =>
    Reads P (Instr.indexAt 33 t1 t4) h3 fun t12 =>
    pStore P 31 t12 t11 h3 fun h4 =>
    Reads P (binS .add 3 true t4 (.int .i64 1)) h4 fun t13 =>
    C1 t13 h4) (
      pLoad P 33 t1 h3 fun t14 =>
  pStore P 33 t2 t14 h3 fun h5 =>
  pLoad P 33 t2 h5 fun r3 => R r3 h5))
theorem C46 {E : List PanicEntry → Heap → Prop} {t0 : Value} {h : Heap} {R : Value → Heap → Prop} (hs : S46 Tryz.prog E t0 h R) : CallsH Tryz.prog 46 #[t0] h R E :=
  calls_of_vc H46 Tryz.mixed Tryz.func46 rfl (by kernel_rfl) (by kernel_rfl) (Eq.mp (show S46 Tryz.prog E t0 h R = vcFun Tryz.prog H46 E Tryz.f46.results.toList _ [t0] h R from by kernel_rfl) hs)

def H47 : Hints := { r := fun _ => none, s := fun i => match i with | 11 => some [4] | _ => none, l := fun i => match i with | 4 => some [4, 5] | 7 => some [6] | _ => none, d := fun i => match i with | 7 => some (.cut 1 (.take 0 (.take 1 (.take 2 (.take 3 (.take 4 (.take 5 (.take 6 (.take 7 (.take 8 (.take 9 (.take 10 (.take 11 (.take 12 (.take 13 (.take 14 (.take 15 (.take 16 (.take 17 .done))))))))))))))))))) | _ => none }
def S47 (P : Program) (E : List PanicEntry → Heap → Prop) (t0 : Value) (h : Heap) (R : Value → Heap → Prop) : Prop :=
  pNew 33 t0 h fun t1 h1 =>
  pLoad P 33 t1 h1 fun t7 =>
  CallsH P 71 #[t7] h1 (fun t8 h2 =>
  Loop2 (str [91]) (.int .i64 0) h2 (fun C1 t4 t5 h3 =>
    Reads P (builtinS .len #[29] 3 #[t8]) h3 fun t11 =>
    Reads P (binS .lss 3 false t5 t11) h3 fun t12 =>
    boolV t12 fun b2 => bcase b2 (
      Loop1 t5 h3 (fun C3 t6 h4 =>
      Reads P (binS .add 3 true t6 (.int .i64 1)) h4 fun t17 =>
      Reads P (builtinS .len #[29] 3 #[t8]) h4 fun t19 =>
      Reads P (binS .lss 3 false t17 t19) h4 fun t20 =>
      boolV t20 fun b4 => bcase b4 (
      Reads P (binS .add 3 true t6 (.int .i64 1)) h4 fun t24 =>
      Reads P (Instr.indexAt 29 t8 t24) h4 fun t25 =>
      pLoad P 5 t25 h4 fun t26 =>
      Reads P (Instr.indexAt 29 t8 t6) h4 fun t29 =>
      pLoad P 5 t29 h4 fun t30 =>
      Reads P (binS .add 5 true t30 (.int .u8 1)) h4 fun t31 =>
      Reads P (binS .eql 5 false t26 t31) h4 fun t32 =>
      boolV t32 fun b5 => bcase b5 (
        Reads P (binS .add 3 true t6 (.int .i64 1)) h4 fun t35 =>
      C3 t35 h4) (
        Join1 (fun J6 =>
      Reads P (binS .gtr 3 true t5 (.int .i64 0)) h4 fun t37 =>
      boolV t37 fun b7 => bcase b7 (
        Reads P (binS .add 9 true t4 (str [44])) h4 fun t39 =>
        J6 t39 h4) (
        J6 t4 h4))
    (fun t4_2 h5 =>
    Reads P (binS .add 3 true t5 (.int .i64 1)) h5 fun t44 =>
    Reads P (Instr.sliceAt 29 t8 (some t5) (some t44) none) h5 fun t45 =>
    Reads P (convert 29 9 t45) h5 fun t46 =>
    CallsH P 72 #[t46] h5 (fun t47 h6 =>
    Reads P (binS .add 9 false t4_2 t47) h6 fun t48 =>
    Reads P (binS .gtr 3 false t6 t5) h6 fun t51 =>
    boolV t51 fun b8 => bcase b8 (
      Reads P (binS .add 3 true t6 (.int .i64 1)) h6 fun t56 =>
      Reads P (Instr.sliceAt 29 t8 (some t6) (some t56) none) h6 fun t57 =>
      Reads P (convert 29 9 t57) h6 fun t58 =>
      CallsH P 72 #[t58] h6 (fun t59 h7 =>
      Reads P (binS .add 9 true (str [45]) t59) h7 fun t60 =>
      Reads P (binS .add 9 false t48 t60) h7 fun t61 =>
      Reads P (binS .add 3 true t6 (.int .i64 1)) h7 fun t14 =>
    C1 t61 t14 h7) E) (
      Reads P (binS .add 3 true t6 (.int .i64 1)) h6 fun t14_2 =>
    C1 t48 t14_2 h6)) E))) (
      Join1 (fun J9 =>
      Reads P (binS .gtr 3 true t5 (.int .i64 0)) h4 fun t37_2 =>
      boolV t37_2 fun b10 => bcase b10 (
        Reads P (binS .add 9 true t4 (str [44])) h4 fun t39_2 =>
        J9 t39_2 h4) (
        J9 t4 h4))
    (fun t4_3 h8 =>
    Reads P (binS .add 3 true t5 (.int .i64 1)) h8 fun t44_2 =>
    Reads P (Instr.sliceAt 29 t8 (some t5) (some t44_2) none) h8 fun t45_2 =>
    Reads P (convert 29 9 t45_2) h8 fun t46_2 =>
    CallsH P 72 #[t46_2] h8 (fun t47_2 h9 =>
    Reads P (binS .add 9 false t4_3 t47_2) h9 fun t48_2 =>
    Reads P (binS .gtr 3 false t6 t5) h9 fun t51_2 =>
    boolV t51_2 fun b11 => bcase b11 (
      Reads P (binS .add 3 true t6 (.int .i64 1)) h9 fun t56_2 =>
      Reads P (Instr.sliceAt 29 t8 (some t6) (some t56_2) none) h9 fun t57_2 =>
      Reads P (convert 29 9 t57_2) h9 fun t58_2 =>
      CallsH P 72 #[t58_2] h9 (fun t59_2 h10 =>
      Reads P (binS .add 9 true (str [45]) t59_2) h10 fun t60_2 =>
      Reads P (binS .add 9 false t48_2 t60_2) h10 fun t61_2 =>
      Reads P (binS .add 3 true t6 (.int .i64 1)) h10 fun t14_3 =>
    C1 t61_2 t14_3 h10) E) (
      Reads P (binS .add 3 true t6 (.int .i64 1)) h9 fun t14_4 =>
    C1 t48_2 t14_4 h9)) E)))) (
      Reads P (binS .add 9 true t4 (str [93])) h3 fun t64 =>
  R t64 h3))) E
theorem C47 {E : List PanicEntry → Heap → Prop} {t0 : Value} {h : Heap} {R : Value → Heap → Prop} (hs : S47 Tryz.prog E t0 h R) : CallsH Tryz.prog 47 #[t0] h R E :=
  calls_of_vc H47 Tryz.mixed Tryz.func47 rfl (by kernel_rfl) (by kernel_rfl) (Eq.mp (show S47 Tryz.prog E t0 h R = vcFun Tryz.prog H47 E Tryz.f47.results.toList _ [t0] h R from by kernel_rfl) hs)

def H49 : Hints := { r := fun _ => none, s := fun _ => none, l := fun _ => none, d := fun _ => none }
def S49 (P : Program) (E : List PanicEntry → Heap → Prop) (t0 t1 : Value) (h : Heap) (R : Value → Heap → Prop) : Prop :=
  Runs P ((do let d ← Deferred.ofValue (.func (.func 74) #[] #[]) #[t0, t1]; invoke d.target d.args)) h (fun t7 h1 =>
  R t7 h1) E
theorem C49 {E : List PanicEntry → Heap → Prop} {t0 t1 : Value} {h : Heap} {R : Value → Heap → Prop} (hs : S49 Tryz.prog E t0 t1 h R) : CallsH Tryz.prog 49 #[t0, t1] h R E :=
  calls_of_vc H49 Tryz.mixed Tryz.func49 rfl (by kernel_rfl) (by kernel_rfl) (Eq.mp (show S49 Tryz.prog E t0 t1 h R = vcFun Tryz.prog H49 E Tryz.f49.results.toList _ [t0, t1] h R from by kernel_rfl) hs)

def H50 : Hints := { r := fun _ => none, s := fun _ => none, l := fun _ => none, d := fun _ => none }
def S50 (P : Program) (E : List PanicEntry → Heap → Prop) (t0 : Value) (h : Heap) (R : Value → Heap → Prop) : Prop :=
  Reads P (binS .eql 3 true t0 (.int .i64 11)) h fun t5 =>
  boolV t5 fun b1 => bcase b1 (
    pLoad P 26 (.pointer (some ⟨11, 0, none⟩)) h fun t6 =>
    R t6 h) (
    Reads P (binS .eql 3 true t0 (.int .i64 12)) h fun t8 =>
    boolV t8 fun b2 => bcase b2 (
      pLoad P 26 (.pointer (some ⟨12, 0, none⟩)) h fun t9 =>
      R t9 h) (
      Reads P (binS .eql 3 true t0 (.int .i64 13)) h fun t11 =>
      boolV t11 fun b3 => bcase b3 (
        pLoad P 26 (.pointer (some ⟨13, 0, none⟩)) h fun t12 =>
        R t12 h) (
        Reads P (binS .eql 3 true t0 (.int .i64 14)) h fun t14 =>
        boolV t14 fun b4 => bcase b4 (
          pLoad P 26 (.pointer (some ⟨14, 0, none⟩)) h fun t15 =>
          R t15 h) (
          Reads P (binS .eql 3 true t0 (.int .i64 15)) h fun t17 =>
          boolV t17 fun b5 => bcase b5 (
            pLoad P 26 (.pointer (some ⟨15, 0, none⟩)) h fun t18 =>
            R t18 h) (
            Reads P (binS .eql 3 true t0 (.int .i64 16)) h fun t20 =>
            boolV t20 fun b6 => bcase b6 (
              pLoad P 26 (.pointer (some ⟨16, 0, none⟩)) h fun t21 =>
              R t21 h) (
              Reads P (binS .eql 3 true t0 (.int .i64 17)) h fun t23 =>
              boolV t23 fun b7 => bcase b7 (
                pLoad P 26 (.pointer (some ⟨17, 0, none⟩)) h fun t24 =>
                R t24 h) (
                Reads P (binS .eql 3 true t0 (.int .i64 18)) h fun t26 =>
                boolV t26 fun b8 => bcase b8 (
                  pLoad P 26 (.pointer (some ⟨18, 0, none⟩)) h fun t27 =>
                  R t27 h) (
                  Reads P (binS .eql 3 true t0 (.int .i64 19)) h fun t29 =>
                  boolV t29 fun b9 => bcase b9 (
                    pLoad P 26 (.pointer (some ⟨19, 0, none⟩)) h fun t30 =>
                    R t30 h) (
                    Reads P (binS .eql 3 true t0 (.int .i64 20)) h fun t32 =>
                    boolV t32 fun b10 => bcase b10 (
                      pLoad P 26 (.pointer (some ⟨20, 0, none⟩)) h fun t33 =>
                      R t33 h) (
                      Reads P (binS .eql 3 true t0 (.int .i64 21)) h fun t35 =>
                      boolV t35 fun b11 => bcase b11 (
                        pLoad P 26 (.pointer (some ⟨21, 0, none⟩)) h fun t36 =>
                        R t36 h) (
                        R .nilIface h)))))))))))
theorem C50 {E : List PanicEntry → Heap → Prop} {t0 : Value} {h : Heap} {R : Value → Heap → Prop} (hs : S50 Tryz.prog E t0 h R) : CallsH Tryz.prog 50 #[t0] h R E :=
  calls_of_vc H50 Tryz.mixed Tryz.func50 rfl (by kernel_rfl) (by kernel_rfl) (Eq.mp (show S50 Tryz.prog E t0 h R = vcFun Tryz.prog H50 E Tryz.f50.results.toList _ [t0] h R from by kernel_rfl) hs)

def H54 : Hints := { r := fun _ => none, s := fun i => match i with | 7 => some [] | _ => none, l := fun i => match i with | 1 => some [0] | 18 => some [50] | _ => none, d := fun _ => none }
def S54 (P : Program) (E : List PanicEntry → Heap → Prop) (t0 t1 t2 t3 : Value) (h : Heap) (R : Value → Heap → Prop) : Prop :=
  pNew 94 t2 h fun t6 h1 =>
  Loop1 t0 h1 (fun C1 t0_2 h2 =>
    Runs P ((do let d ← Deferred.ofValue (.func (.func 75) #[] #[]) #[t0_2]; invoke d.target d.args)) h2 (fun t17 h3 =>
    Runs P (invoke (.fn (.method "AssignableTo") #[]) (#[t17] ++ #[t3])) h3 (fun t19 h4 =>
    boolV t19 fun b2 => bcase b2 (
      pLoad P 94 t6 h4 fun t20 =>
      Runs P ((do let d ← Deferred.ofValue (.func (.func 76) #[] #[]) #[t20]; invoke d.target d.args)) h4 (fun t21 h5 =>
      Runs P ((do let d ← Deferred.ofValue (.func (.func 51) #[] #[]) #[t0_2]; invoke d.target d.args)) h5 (fun t23 h6 =>
      Runs P ((do let d ← Deferred.ofValue (.func (.func 77) #[] #[]) #[t21, t23]; invoke d.target d.args)) h6 (fun t24 h7 =>
      R (.bool true) h7) E) E) E) (
      Join0 (fun J3 =>
      Reads P (Instr.typeAssert t0_2 26 122 true) h4 fun t27 =>
      Reads P (Instr.extract t27 0) h4 fun t28 =>
      Reads P (Instr.extract t27 1) h4 fun t29 =>
      boolV t29 fun b4 => bcase b4 (
      Runs P (invoke (.fn (.method "As") #[]) (#[t28] ++ #[t1])) h4 (fun t34 h8 =>
      boolV t34 fun b5 => bcase b5 (
        R (.bool true) h8) (
        J3 h8)) E) (
      J3 h4))
    (fun h9 =>
    Reads P (Instr.typeAssert t0_2 26 125 true) h9 fun t37 =>
    Reads P (Instr.extract t37 1) h9 fun t38 =>
    Reads P (Instr.extract t37 0) h9 fun t39 =>
    boolV t38 fun b6 => bcase b6 (
      Runs P (invoke (.fn (.method "Unwrap") #[]) (#[t39] ++ #[])) h9 (fun t41 h10 =>
      Reads P (binS .eql 26 true t41 .nilIface) h10 fun t43 =>
      boolV t43 fun b7 => bcase b7 (
        R (.bool false) h10) (
        C1 t41 h10)) E) (
      Reads P (Instr.typeAssert t0_2 26 127 true) h9 fun t44 =>
      Reads P (Instr.extract t44 1) h9 fun t45 =>
      Reads P (Instr.extract t44 0) h9 fun t46 =>
      boolV t45 fun b8 => bcase b8 (
        Runs P (invoke (.fn (.method "Unwrap") #[]) (#[t46] ++ #[])) h9 (fun t48 h11 =>
        Reads P (builtinS .len #[128] 3 #[t48]) h11 fun t49 =>
        Loop1 (.int .i64 0) h11 (fun C9 t50 h12 =>
          Reads P (binS .lss 3 false t50 t49) h12 fun t51 =>
          boolV t51 fun b10 => bcase b10 (
            Reads P (Instr.indexAt 128 t48 t50) h12 fun t52 =>
          pLoad P 26 t52 h12 fun t53 =>
          Reads P (binS .eql 26 true t53 .nilIface) h12 fun t55 =>
          boolV t55 fun b11 => bcase b11 (
            Reads P (binS .add 3 true t50 (.int .i64 1)) h12 fun t61 =>
          C9 t61 h12) (
            pLoad P 94 t6 h12 fun t58 =>
          CallsH P 54 #[t53, t1, t58, t3] h12 (fun t60 h13 =>
          boolV t60 fun b12 => bcase b12 (
            R (.bool true) h13) (
            Reads P (binS .add 3 true t50 (.int .i64 1)) h13 fun t61_2 =>
          C9 t61_2 h13)) E)) (
            R (.bool false) h12))) E) (
        R (.bool false) h9))))) E) E)
theorem C54 {E : List PanicEntry → Heap → Prop} {t0 t1 t2 t3 : Value} {h : Heap} {R : Value → Heap → Prop} (hs : S54 Tryz.prog E t0 t1 t2 t3 h R) : CallsH Tryz.prog 54 #[t0, t1, t2, t3] h R E :=
  calls_of_vc H54 Tryz.mixed Tryz.func54 rfl (by kernel_rfl) (by kernel_rfl) (Eq.mp (show S54 Tryz.prog E t0 t1 t2 t3 h R = vcFun Tryz.prog H54 E Tryz.f54.results.toList _ [t0, t1, t2, t3] h R from by kernel_rfl) hs)

def H55 : Hints := { r := fun _ => none, s := fun _ => none, l := fun i => match i with | 2 => some [3] | _ => none, d := fun _ => none }
def S55 (P : Program) (E : List PanicEntry → Heap → Prop) (t0 : Value) (h : Heap) (R : Value → Heap → Prop) : Prop :=
  pAlloc P 36 h fun t2 h1 =>
  CallsH P 78 #[t0] h1 (fun t5 h2 =>
  Runs P (vS (Instr.buildSlice 34 1 #[(0, t5)])) h2 (fun t6 h3 =>
  Loop1 t6 h3 (fun C1 t3 h4 =>
    CallsH P 79 #[t0, (str [124])] h4 (fun t8 h5 =>
    boolV t8 fun b2 => bcase b2 (
      CallsH P 78 #[t0] h5 (fun t11 h6 =>
    Runs P (vS (Instr.buildSlice 34 1 #[(0, t11)])) h6 (fun t12 h7 =>
    Runs P (builtin .append #[34, 34] 34 #[false, false] #[t3, t12]) h7 (fun t13 h8 =>
    C1 t13 h8) E) E) E) (
      CallsH P 80 #[(.int .i64 5), t3] h5 (fun t15 h9 =>
  pStore P 36 t2 t15 h9 fun h10 =>
  pLoad P 36 t2 h10 fun r3 => R r3 h10) E)) E)) E) E
theorem C55 {E : List PanicEntry → Heap → Prop} {t0 : Value} {h : Heap} {R : Value → Heap → Prop} (hs : S55 Tryz.prog E t0 h R) : CallsH Tryz.prog 55 #[t0] h R E :=
  calls_of_vc H55 Tryz.mixed Tryz.func55 rfl (by kernel_rfl) (by kernel_rfl) (Eq.mp (show S55 Tryz.prog E t0 h R = vcFun Tryz.prog H55 E Tryz.f55.results.toList _ [t0] h R from by kernel_rfl) hs)

def H56 : Hints := { r := fun _ => none, s := fun i => match i with | 4 => some [3] | 5 => some [] | 6 => some [59] | 15 => some [3] | _ => none, l := fun i => match i with | 4 => some [3] | 9 => some [] | _ => none, d := fun i => match i with | 5 => some (.cut 1 (.take 0 (.cut 0 (.act 1 (.cut 1 (.take 2 (.take 3 (.take 4 (.take 5 (.take 6 (.take 7 (.take 8 (.take 9 (.take 10 (.take 11 (.take 12 (.take 13 (.take 14 (.take 15 (.take 16 (.take 17 (.take 18 (.take 19 (.take 20 (.take 21 (.take 22 (.take 23 (.take 24 (.take 25 (.take 26 (.take 27 (.take 28 (.take 29 (.take 30 (.take 31 (.take 32 (.take 33 (.take 34 (.take 35 (.take 36 (.take 37 (.take 38 (.take 39 .done))))))))))))))))))))))))))))))))))))))) .stop)))) | _ => none }
def S56 (P : Program) (E : List PanicEntry → Heap → Prop) (t0 : Value) (h : Heap) (R : Value → Heap → Prop) : Prop :=
  pAlloc P 36 h fun t2 h1 =>
  Join1 (fun J1 =>
    CallsH P 79 #[t0, (str [94])] h1 (fun t7 h2 =>
    boolV t7 fun b2 => bcase b2 (
      Reads P (Instr.build 36 #[(0, (.int .i64 2))]) h2 fun t9 =>
      Runs P (vS (Instr.buildSlice 34 1 #[(0, t9)])) h2 (fun t10 h3 =>
      Runs P (builtin .append #[34, 34] 34 #[false, false] #[(.slice none 0 0), t10]) h3 (fun t11 h4 =>
      J1 t11 h4) E) E) (
      J1 (.slice none 0 0) h2)) E)
  (fun t3 h5 =>
  Join1 (fun J3 =>
    Loop1 t3 h5 (fun C4 t3_2 h6 =>
      Join0 (fun J5 =>
        CallsH P 57 #[t0] h6 (fun t13 h7 =>
        Reads P (Op.unary .not t13) h7 fun t14 =>
        boolV t14 fun b6 => bcase b6 (
        CallsH P 81 #[t0, (str [92, 41])] h7 (fun t17 h8 =>
        Reads P (Op.unary .not t17) h8 fun t18 =>
        boolV t18 fun b7 => bcase b7 (
          J5 h8) (
          J3 t3_2 h8)) E) (
        J3 t3_2 h7)) E)
      (fun h9 =>
      Join1 (fun J8 =>
        (CallsH P 81 #[t0, (str [36])] h9 (fun t21 h10 =>
        True ∧ (boolV t21 fun b9 => bcase b9 (
        Reads P (nilS t0) h10 fun t24 =>
        Reads P (Instr.fieldAt 57 t24 1) h10 fun t25 =>
        pLoad P 3 t25 h10 fun t26 =>
        Reads P (binS .add 3 true t26 (.int .i64 1)) h10 fun t27 =>
        Reads P (nilS t0) h10 fun t29 =>
        Reads P (Instr.fieldAt 57 t29 0) h10 fun t30 =>
        pLoad P 29 t30 h10 fun t31 =>
        Reads P (builtinS .len #[29] 3 #[t31]) h10 fun t32 =>
        Reads P (binS .eql 3 false t27 t32) h10 fun t33 =>
        boolV t33 fun b10 => bcase b10 (
        J8 (.bool true) h10) (
        Reads P (nilS t0) h10 fun t36 =>
        Reads P (Instr.fieldAt 57 t36 0) h10 fun t37 =>
        pLoad P 29 t37 h10 fun t38 =>
        Reads P (nilS t0) h10 fun t40 =>
        Reads P (Instr.fieldAt 57 t40 1) h10 fun t41 =>
        pLoad P 3 t41 h10 fun t42 =>
        Reads P (binS .add 3 true t42 (.int .i64 1)) h10 fun t43 =>
        Reads P (nilS t0) h10 fun t45 =>
        Reads P (Instr.fieldAt 57 t45 1) h10 fun t46 =>
        pLoad P 3 t46 h10 fun t47 =>
        Reads P (binS .add 3 true t47 (.int .i64 3)) h10 fun t48 =>
        Reads P (nilS t0) h10 fun t50 =>
        Reads P (Instr.fieldAt 57 t50 0) h10 fun t51 =>
        pLoad P 29 t51 h10 fun t52 =>
        Reads P (builtinS .len #[29] 3 #[t52]) h10 fun t53 =>
        Reads P (builtinS .min #[3, 3] 3 #[t48, t53]) h10 fun t54 =>
        Reads P (Instr.sliceAt 29 t38 (some t43) (some t54) none) h10 fun t55 =>
        Reads P (convert 29 9 t55) h10 fun t56 =>
        Reads P (binS .eql 9 true t56 (str [92, 41])) h10 fun t57 =>
        J8 t57 h10)) (
        (undef = undef ∧ ((undef = undef ∧ ((undef = undef ∧ ((undef = undef ∧ ((undef = undef ∧ ((undef = undef ∧ ((undef = undef ∧ ((undef = undef ∧ ((undef = undef ∧ ((undef = undef ∧ ((undef = undef ∧ ((undef = undef ∧ ((undef = undef ∧ ((undef = undef ∧ ((undef = undef ∧ ((undef = undef ∧ ((undef = undef ∧ ((undef = undef ∧ ((undef = undef ∧ ((undef = undef ∧ ((undef = undef ∧ ((undef = undef ∧ ((undef = undef ∧ (J8 (.bool false) h10))))))))))))))))))))))))))))))))))))))))))))))))) E) ∧ True)
      (fun t59 h11 =>
      boolV t59 fun b11 => bcase b11 (
        Reads P (nilS t0) h11 fun t61 =>
        Reads P (Instr.fieldAt 57 t61 1) h11 fun t62 =>
        pLoad P 3 t62 h11 fun t63 =>
        Reads P (binS .add 3 true t63 (.int .i64 1)) h11 fun t64 =>
        Reads P (nilS t0) h11 fun t65 =>
        Reads P (Instr.fieldAt 57 t65 1) h11 fun t66 =>
        pStore P 3 t66 t64 h11 fun h12 =>
        Reads P (Instr.build 36 #[(0, (.int .i64 3))]) h12 fun t68 =>
        Runs P (vS (Instr.buildSlice 34 1 #[(0, t68)])) h12 (fun t69 h13 =>
        Runs P (builtin .append #[34, 34] 34 #[false, false] #[t3_2, t69]) h13 (fun t70 h14 =>
        J3 t70 h14) E) E) (
        CallsH P 82 #[t0] h11 (fun t72 h15 =>
      pAlloc P 36 h15 fun t4 h16 =>
      pStore P 36 t4 t72 h16 fun h17 =>
      Loop0 h17 (fun C12 h18 =>
        Reads P (nilS t0) h18 fun t74 =>
        Reads P (Instr.fieldAt 57 t74 1) h18 fun t75 =>
        pLoad P 3 t75 h18 fun t76 =>
        CallsH P 79 #[t0, (str [42])] h18 (fun t78 h19 =>
        boolV t78 fun b13 => bcase b13 (
          pLoad P 36 t4 h19 fun t79 =>
          CallsH P 83 #[t79, (.int .i64 0), (.int .i64 (-1))] h19 (fun t80 h20 =>
          pStore P 36 t4 t80 h20 fun h21 =>
          C12 h21) E) (
          CallsH P 79 #[t0, (str [92, 123])] h19 (fun t82 h22 =>
          boolV t82 fun b14 => bcase b14 (
            pLoad P 36 t4 h22 fun t84 =>
            CallsH P 84 #[t0, t84, t76, (str [92, 125])] h22 (fun t86 h23 =>
            pStore P 36 t4 t86 h23 fun h24 =>
            C12 h24) E) (
            pLoad P 36 t4 h22 fun t88 =>
      Runs P (vS (Instr.buildSlice 34 1 #[(0, t88)])) h22 (fun t89 h25 =>
      Runs P (builtin .append #[34, 34] 34 #[false, false] #[t3_2, t89]) h25 (fun t90 h26 =>
      C4 t90 h26) E) E)) E)) E)) E)))))
  (fun t3_3 h27 =>
  Reads P (builtinS .len #[34] 3 #[t3_3]) h27 fun t92 =>
  Reads P (binS .eql 3 true t92 (.int .i64 0)) h27 fun t93 =>
  boolV t93 fun b15 => bcase b15 (
    Reads P (nilS t0) h27 fun t96 =>
    Reads P (Instr.fieldAt 57 t96 1) h27 fun t97 =>
    pLoad P 3 t97 h27 fun t98 =>
    CallsH P 58 #[t0, (.int .i64 3), t98] h27 (fun t99 h28 =>
    CallsH P 80 #[(.int .i64 4), t3_3] h28 (fun t101 h29 =>
  pStore P 36 t2 t101 h29 fun h30 =>
  pLoad P 36 t2 h30 fun r16 => R r16 h30) E) E) (
    CallsH P 80 #[(.int .i64 4), t3_3] h27 (fun t101_2 h31 =>
  pStore P 36 t2 t101_2 h31 fun h32 =>
  pLoad P 36 t2 h32 fun r17 => R r17 h32) E)))
theorem C56 {E : List PanicEntry → Heap → Prop} {t0 : Value} {h : Heap} {R : Value → Heap → Prop} (hs : S56 Tryz.prog E t0 h R) : CallsH Tryz.prog 56 #[t0] h R E :=
  calls_of_vc H56 Tryz.mixed Tryz.func56 rfl (by kernel_rfl) (by kernel_rfl) (Eq.mp (show S56 Tryz.prog E t0 h R = vcFun Tryz.prog H56 E Tryz.f56.results.toList _ [t0] h R from by kernel_rfl) hs)

def H57 : Hints := { r := fun _ => none, s := fun _ => none, l := fun _ => none, d := fun i => match i with | 1 => some (.cut 1 (.take 0 (.take 1 (.take 2 (.take 3 (.take 4 (.take 5 (.take 6 (.take 7 (.take 8 (.take 9 (.take 10 .done)))))))))))) | _ => none }
def S57 (P : Program) (E : List PanicEntry → Heap → Prop) (t0 : Value) (h : Heap) (R : Value → Heap → Prop) : Prop :=
  Reads P (nilS t0) h fun t4 =>
  Reads P (Instr.fieldAt 57 t4 1) h fun t5 =>
  pLoad P 3 t5 h fun t6 =>
  Reads P (nilS t0) h fun t8 =>
  Reads P (Instr.fieldAt 57 t8 0) h fun t9 =>
  pLoad P 29 t9 h fun t10 =>
  Reads P (builtinS .len #[29] 3 #[t10]) h fun t11 =>
  Reads P (binS .geq 3 false t6 t11) h fun t12 =>
  R t12 h
theorem C57 {E : List PanicEntry → Heap → Prop} {t0 : Value} {h : Heap} {R : Value → Heap → Prop} (hs : S57 Tryz.prog E t0 h R) : CallsH Tryz.prog 57 #[t0] h R E :=
  calls_of_vc H57 Tryz.mixed Tryz.func57 rfl (by kernel_rfl) (by kernel_rfl) (Eq.mp (show S57 Tryz.prog E t0 h R = vcFun Tryz.prog H57 E Tryz.f57.results.toList _ [t0] h R from by kernel_rfl) hs)

def H58 : Hints := { r := fun _ => none, s := fun _ => none, l := fun _ => none, d := fun _ => none }
def S58 (P : Program) (E : List PanicEntry → Heap → Prop) (t0 t1 t2 : Value) (h : Heap) (R : Value → Heap → Prop) : Prop :=
  CallsH P 27 #[t1] h (fun t7 h1 =>
  CallsH P 26 #[t7, t2] h1 (fun t9 h2 =>
  CallsH P 28 #[t0] h2 (fun t11 h3 =>
  CallsH P 25 #[t9, t11] h3 (fun t12 h4 =>
  Reads P (Instr.build 62 #[(0, t12)]) h4 fun t13 =>
  Reads P (Instr.makeInterface 62 t13) h4 fun t14 =>
  Runs P (vS (Instr.panic t14)) h4 (fun u1 h5 =>
  R (.tuple #[]) h5) E) E) E) E) E
theorem C58 {E : List PanicEntry → Heap → Prop} {t0 t1 t2 : Value} {h : Heap} {R : Value → Heap → Prop} (hs : S58 Tryz.prog E t0 t1 t2 h R) : CallsH Tryz.prog 58 #[t0, t1, t2] h R E :=
  calls_of_vc H58 Tryz.mixed Tryz.func58 rfl (by kernel_rfl) (by kernel_rfl) (Eq.mp (show S58 Tryz.prog E t0 t1 t2 h R = vcFun Tryz.prog H58 E Tryz.f58.results.toList _ [t0, t1, t2] h R from by kernel_rfl) hs)

def H59 : Hints := { r := fun _ => none, s := fun i => match i with | 4 => some [] | 5 => some [30] | 8 => some [4] | _ => none, l := fun i => match i with | 2 => some [3] | _ => none, d := fun _ => none }
def S59 (P : Program) (E : List PanicEntry → Heap → Prop) (t0 : Value) (h : Heap) (R : Value → Heap → Prop) : Prop :=
  pAlloc P 36 h fun t2 h1 =>
  Loop1 (.slice none 0 0) h1 (fun C1 t3 h2 =>
    Join0 (fun J2 =>
      CallsH P 40 #[t0] h2 (fun t6 h3 =>
      Reads P (Op.unary .not t6) h3 fun t7 =>
      boolV t7 fun b3 => bcase b3 (
      CallsH P 41 #[t0] h3 (fun t10 h4 =>
      Reads P (Op.unary .not t10) h4 fun t11 =>
      boolV t11 fun b4 => bcase b4 (
      CallsH P 36 #[t0, (str [124])] h4 (fun t15 h5 =>
      Reads P (Op.unary .not t15) h5 fun t16 =>
      boolV t16 fun b5 => bcase b5 (
      CallsH P 36 #[t0, (str [41])] h5 (fun t20 h6 =>
      Reads P (Op.unary .not t20) h6 fun t21 =>
      boolV t21 fun b6 => bcase b6 (
        J2 h6) (
        Reads P (builtinS .len #[34] 3 #[t3]) h6 fun t52 =>
  Reads P (binS .eql 3 true t52 (.int .i64 0)) h6 fun t53 =>
  boolV t53 fun b7 => bcase b7 (
    Reads P (nilS t0) h6 fun t56 =>
    Reads P (Instr.fieldAt 71 t56 1) h6 fun t57 =>
    pLoad P 3 t57 h6 fun t58 =>
    CallsH P 37 #[t0, (.int .i64 3), t58] h6 (fun t59 h7 =>
    pStore P 36 t2 t59 h7 fun h8 =>
    pLoad P 36 t2 h8 fun r8 => R r8 h8) E) (
    CallsH P 60 #[(.int .i64 4), t3] h6 (fun t61 h9 =>
  pStore P 36 t2 t61 h9 fun h10 =>
  pLoad P 36 t2 h10 fun r9 => R r9 h10) E))) E) (
      Reads P (builtinS .len #[34] 3 #[t3]) h5 fun t52_2 =>
  Reads P (binS .eql 3 true t52_2 (.int .i64 0)) h5 fun t53_2 =>
  boolV t53_2 fun b10 => bcase b10 (
    Reads P (nilS t0) h5 fun t56_2 =>
    Reads P (Instr.fieldAt 71 t56_2 1) h5 fun t57_2 =>
    pLoad P 3 t57_2 h5 fun t58_2 =>
    CallsH P 37 #[t0, (.int .i64 3), t58_2] h5 (fun t59_2 h11 =>
    pStore P 36 t2 t59_2 h11 fun h12 =>
    pLoad P 36 t2 h12 fun r11 => R r11 h12) E) (
    CallsH P 60 #[(.int .i64 4), t3] h5 (fun t61_2 h13 =>
  pStore P 36 t2 t61_2 h13 fun h14 =>
  pLoad P 36 t2 h14 fun r12 => R r12 h14) E))) E) (
      Reads P (builtinS .len #[34] 3 #[t3]) h4 fun t52_3 =>
  Reads P (binS .eql 3 true t52_3 (.int .i64 0)) h4 fun t53_3 =>
  boolV t53_3 fun b13 => bcase b13 (
    Reads P (nilS t0) h4 fun t56_3 =>
    Reads P (Instr.fieldAt 71 t56_3 1) h4 fun t57_3 =>
    pLoad P 3 t57_3 h4 fun t58_3 =>
    CallsH P 37 #[t0, (.int .i64 3), t58_3] h4 (fun t59_3 h15 =>
    pStore P 36 t2 t59_3 h15 fun h16 =>
    pLoad P 36 t2 h16 fun r14 => R r14 h16) E) (
    CallsH P 60 #[(.int .i64 4), t3] h4 (fun t61_3 h17 =>
  pStore P 36 t2 t61_3 h17 fun h18 =>
  pLoad P 36 t2 h18 fun r15 => R r15 h18) E))) E) (
      Reads P (builtinS .len #[34] 3 #[t3]) h3 fun t52_4 =>
  Reads P (binS .eql 3 true t52_4 (.int .i64 0)) h3 fun t53_4 =>
  boolV t53_4 fun b16 => bcase b16 (
    Reads P (nilS t0) h3 fun t56_4 =>
    Reads P (Instr.fieldAt 71 t56_4 1) h3 fun t57_4 =>
    pLoad P 3 t57_4 h3 fun t58_4 =>
    CallsH P 37 #[t0, (.int .i64 3), t58_4] h3 (fun t59_4 h19 =>
    pStore P 36 t2 t59_4 h19 fun h20 =>
    pLoad P 36 t2 h20 fun r17 => R r17 h20) E) (
    CallsH P 60 #[(.int .i64 4), t3] h3 (fun t61_4 h21 =>
  pStore P 36 t2 t61_4 h21 fun h22 =>
  pLoad P 36 t2 h22 fun r18 => R r18 h22) E))) E)
    (fun h23 =>
    Join1 (fun J19 =>
      CallsH P 36 #[t0, (str [94])] h23 (fun t32 h24 =>
      boolV t32 fun b20 => bcase b20 (
      J19 (.bool true) h24) (
      CallsH P 36 #[t0, (str [36])] h24 (fun t35 h25 =>
      J19 t35 h25) E)) E)
    (fun t30 h26 =>
    boolV t30 fun b21 => bcase b21 (
      Join1 (fun J22 =>
        CallsH P 36 #[t0, (str [36])] h26 (fun t38 h27 =>
        boolV t38 fun b23 => bcase b23 (
          J22 (.int .i64 3) h27) (
          J22 (.int .i64 2) h27)) E)
      (fun t4 h28 =>
      Reads P (nilS t0) h28 fun t40 =>
      Reads P (Instr.fieldAt 71 t40 1) h28 fun t41 =>
      pLoad P 3 t41 h28 fun t42 =>
      Reads P (binS .add 3 true t42 (.int .i64 1)) h28 fun t43 =>
      Reads P (nilS t0) h28 fun t44 =>
      Reads P (Instr.fieldAt 71 t44 1) h28 fun t45 =>
      pStore P 3 t45 t43 h28 fun h29 =>
      Reads P (Instr.build 36 #[(0, t4)]) h29 fun t48 =>
      Runs P (vS (Instr.buildSlice 34 1 #[(0, t48)])) h29 (fun t49 h30 =>
      Runs P (builtin .append #[34, 34] 34 #[false, false] #[t3, t49]) h30 (fun t50 h31 =>
      C1 t50 h31) E) E)) (
      CallsH P 63 #[t0] h26 (fun t26 h32 =>
      CallsH P 62 #[t0, t26] h32 (fun t27 h33 =>
      Runs P (vS (Instr.buildSlice 34 1 #[(0, t27)])) h33 (fun t28 h34 =>
      Runs P (builtin .append #[34, 34] 34 #[false, false] #[t3, t28]) h34 (fun t29 h35 =>
      C1 t29 h35) E) E) E) E))))
theorem C59 {E : List PanicEntry → Heap → Prop} {t0 : Value} {h : Heap} {R : Value → Heap → Prop} (hs : S59 Tryz.prog E t0 h R) : CallsH Tryz.prog 59 #[t0] h R E :=
  calls_of_vc H59 Tryz.mixed Tryz.func59 rfl (by kernel_rfl) (by kernel_rfl) (Eq.mp (show S59 Tryz.prog E t0 h R = vcFun Tryz.prog H59 E Tryz.f59.results.toList _ [t0] h R from by kernel_rfl) hs)

def H60 : Hints := { r := fun _ => none, s := fun _ => none, l := fun _ => none, d := fun _ => none }
def S60 (P : Program) (E : List PanicEntry → Heap → Prop) (t0 t1 : Value) (h : Heap) (R : Value → Heap → Prop) : Prop :=
  pAlloc P 36 h fun t4 h1 =>
  Reads P (builtinS .len #[34] 3 #[t1]) h1 fun t6 =>
  Reads P (binS .eql 3 true t6 (.int .i64 1)) h1 fun t7 =>
  boolV t7 fun b1 => bcase b1 (
    Reads P (Instr.indexAt 34 t1 (.int .i64 0)) h1 fun t9 =>
    pLoad P 36 t9 h1 fun t10 =>
    pStore P 36 t4 t10 h1 fun h2 =>
    pLoad P 36 t4 h2 fun r2 => R r2 h2) (
    Reads P (Instr.build 36 #[(0, t0), (5, t1)]) h1 fun t13 =>
  pStore P 36 t4 t13 h1 fun h3 =>
  pLoad P 36 t4 h3 fun r3 => R r3 h3)
theorem C60 {E : List PanicEntry → Heap → Prop} {t0 t1 : Value} {h : Heap} {R : Value → Heap → Prop} (hs : S60 Tryz.prog E t0 t1 h R) : CallsH Tryz.prog 60 #[t0, t1] h R E :=
  calls_of_vc H60 Tryz.mixed Tryz.func60 rfl (by kernel_rfl) (by kernel_rfl) (Eq.mp (show S60 Tryz.prog E t0 t1 h R = vcFun Tryz.prog H60 E Tryz.f60.results.toList _ [t0, t1] h R from by kernel_rfl) hs)

def H61 : Hints := { r := fun _ => none, s := fun _ => none, l := fun _ => none, d := fun _ => none }
def S61 (P : Program) (E : List PanicEntry → Heap → Prop) (t0 : Value) (h : Heap) (R : Value → Heap → Prop) : Prop :=
  CallsH P 41 #[t0] h (fun t4 h1 =>
  boolV t4 fun b1 => bcase b1 (
  R (.bool true) h1) (
  CallsH P 85 #[t0, (str [41])] h1 (fun t8 h2 =>
  CallsH P 36 #[t0, t8] h2 (fun t9 h3 =>
  R t9 h3) E) E)) E
theorem C61 {E : List PanicEntry → Heap → Prop} {t0 : Value} {h : Heap} {R : Value → Heap → Prop} (hs : S61 Tryz.prog E t0 h R) : CallsH Tryz.prog 61 #[t0] h R E :=
  calls_of_vc H61 Tryz.mixed Tryz.func61 rfl (by kernel_rfl) (by kernel_rfl) (Eq.mp (show S61 Tryz.prog E t0 h R = vcFun Tryz.prog H61 E Tryz.f61.results.toList _ [t0] h R from by kernel_rfl) hs)

def H62 : Hints := { r := fun _ => none, s := fun i => match i with | 7 => some [25] | 10 => some [43] | _ => none, l := fun i => match i with | 1 => some [] | _ => none, d := fun i => match i with | 14 => some (.cut 2 (.take 0 (.take 1 (.take 2 (.take 3 (.take 4 (.act 5 (.take 6 (.cut 1 (.take 7 (.take 8 (.take 9 (.cut 0 (.act 10 .done .stop))))))) .stop))))))) | _ => none }
def S62 (P : Program) (E : List PanicEntry → Heap → Prop) (t0 t1 : Value) (h : Heap) (R : Value → Heap → Prop) : Prop :=
  pNew 36 t1 h fun t3 h1 =>
  pAlloc P 36 h1 fun t4 h2 =>
  Loop0 h2 (fun C1 h3 =>
    CallsH P 40 #[t0] h3 (fun t10 h4 =>
    Reads P (Op.unary .not t10) h4 fun t11 =>
    boolV t11 fun b2 => bcase b2 (
      CallsH P 36 #[t0, (str [42])] h4 (fun t15 h5 =>
    boolV t15 fun b3 => bcase b3 (
      pLoad P 36 t3 h5 fun t16 =>
      CallsH P 86 #[(.int .i64 0), (.int .i64 (-1)), t16] h5 (fun t17 h6 =>
      pStore P 36 t3 t17 h6 fun h7 =>
      Reads P (nilS t0) h7 fun t19 =>
      Reads P (Instr.fieldAt 71 t19 1) h7 fun t20 =>
      pLoad P 3 t20 h7 fun t21 =>
      Reads P (binS .add 3 true t21 (.int .i64 1)) h7 fun t22 =>
      Reads P (nilS t0) h7 fun t23 =>
      Reads P (Instr.fieldAt 71 t23 1) h7 fun t24 =>
      pStore P 3 t24 t22 h7 fun h8 =>
      C1 h8) E) (
      Join1 (fun J4 =>
        Reads P (nilS t0) h5 fun t27 =>
        Reads P (Instr.fieldAt 71 t27 2) h5 fun t28 =>
        pLoad P 4 t28 h5 fun t29 =>
        boolV t29 fun b5 => bcase b5 (
        CallsH P 36 #[t0, (str [43])] h5 (fun t32 h9 =>
        J4 t32 h9) E) (
        J4 (.bool false) h5))
      (fun t25 h10 =>
      boolV t25 fun b6 => bcase b6 (
        pLoad P 36 t3 h10 fun t34 =>
        CallsH P 86 #[(.int .i64 1), (.int .i64 (-1)), t34] h10 (fun t35 h11 =>
        pStore P 36 t3 t35 h11 fun h12 =>
        Reads P (nilS t0) h12 fun t37 =>
        Reads P (Instr.fieldAt 71 t37 1) h12 fun t38 =>
        pLoad P 3 t38 h12 fun t39 =>
        Reads P (binS .add 3 true t39 (.int .i64 1)) h12 fun t40 =>
        Reads P (nilS t0) h12 fun t41 =>
        Reads P (Instr.fieldAt 71 t41 1) h12 fun t42 =>
        pStore P 3 t42 t40 h12 fun h13 =>
        C1 h13) E) (
        Join1 (fun J7 =>
          Reads P (nilS t0) h10 fun t45 =>
          Reads P (Instr.fieldAt 71 t45 2) h10 fun t46 =>
          pLoad P 4 t46 h10 fun t47 =>
          boolV t47 fun b8 => bcase b8 (
          CallsH P 36 #[t0, (str [63])] h10 (fun t50 h14 =>
          J7 t50 h14) E) (
          J7 (.bool false) h10))
        (fun t43 h15 =>
        boolV t43 fun b9 => bcase b9 (
          pLoad P 36 t3 h15 fun t52 =>
          CallsH P 86 #[(.int .i64 0), (.int .i64 1), t52] h15 (fun t53 h16 =>
          pStore P 36 t3 t53 h16 fun h17 =>
          Reads P (nilS t0) h17 fun t55 =>
          Reads P (Instr.fieldAt 71 t55 1) h17 fun t56 =>
          pLoad P 3 t56 h17 fun t57 =>
          Reads P (binS .add 3 true t57 (.int .i64 1)) h17 fun t58 =>
          Reads P (nilS t0) h17 fun t59 =>
          Reads P (Instr.fieldAt 71 t59 1) h17 fun t60 =>
          pStore P 3 t60 t58 h17 fun h18 =>
          C1 h18) E) (
          CallsH P 85 #[t0, (str [123])] h15 (fun t64 h19 =>
          CallsH P 36 #[t0, t64] h19 (fun t65 h20 =>
          boolV t65 fun b10 => bcase b10 (
            Reads P (nilS t0) h20 fun t67 =>
            Reads P (Instr.fieldAt 71 t67 1) h20 fun t68 =>
            pLoad P 3 t68 h20 fun t69 =>
            Stable h20 fun S11 =>
            ReadsS P (nilS t0) S11 fun t71 =>
            ReadsS P (Instr.fieldAt 71 t71 1) S11 fun t72 =>
            pLoadS P 3 t72 S11 fun t73 =>
            (CallsH P 85 #[t0, (str [123])] h20 (fun t75 h21 =>
            S11 h21 ∧ (ReadsS P (builtinS .len #[9] 3 #[t75]) S11 fun t76 =>
            Reads P (binS .add 3 false t73 t76) h21 fun t77 =>
            Reads P (nilS t0) h21 fun t78 =>
            Reads P (Instr.fieldAt 71 t78 1) h21 fun t79 =>
            (pStore P 3 t79 t77 h21 fun h22 =>
            True ∧ (CallsH P 87 #[t0] h22 (fun t82 h23 =>
            Reads P (Instr.extract t82 0) h23 fun t83 =>
            Reads P (Instr.extract t82 1) h23 fun t84 =>
            Reads P (Instr.extract t82 2) h23 fun t85 =>
            Reads P (Op.unary .not t85) h23 fun t87 =>
            boolV t87 fun b12 => bcase b12 (
              CallsH P 37 #[t0, (.int .i64 7), t69] h23 (fun t90 h24 =>
              pStore P 36 t4 t90 h24 fun h25 =>
              pLoad P 36 t4 h25 fun r13 => R r13 h25) E) (
              pLoad P 36 t3 h23 fun t93 =>
            CallsH P 86 #[t83, t84, t93] h23 (fun t94 h26 =>
            pStore P 36 t3 t94 h26 fun h27 =>
            C1 h27) E)) E)) ∧ True)) E) ∧ True) (
            pLoad P 36 t3 h20 fun t12 =>
            pStore P 36 t4 t12 h20 fun h28 =>
            pLoad P 36 t4 h28 fun r14 => R r14 h28)) E) E)))))) E) (
      pLoad P 36 t3 h4 fun t95 =>
  pStore P 36 t4 t95 h4 fun h29 =>
  pLoad P 36 t4 h29 fun r15 => R r15 h29)) E)
theorem C62 {E : List PanicEntry → Heap → Prop} {t0 t1 : Value} {h : Heap} {R : Value → Heap → Prop} (hs : S62 Tryz.prog E t0 t1 h R) : CallsH Tryz.prog 62 #[t0, t1] h R E :=
  calls_of_vc H62 Tryz.mixed Tryz.func62 rfl (by kernel_rfl) (by kernel_rfl) (Eq.mp (show S62 Tryz.prog E t0 t1 h R = vcFun Tryz.prog H62 E Tryz.f62.results.toList _ [t0, t1] h R from by kernel_rfl) hs)

def H63 : Hints := { r := fun _ => none, s := fun i => match i with | 15 => some [69] | 16 => some [69] | _ => none, l := fun _ => none, d := fun i => match i with | 1 => some (.cut 1 (.take 0 (.take 1 (.take 2 (.take 3 (.take 4 (.take 5 (.take 6 (.take 7 (.take 8 (.take 9 (.take 10 .done)))))))))))) | 6 => some (.cut 2 (.take 0 (.take 1 (.take 2 (.take 3 (.take 4 (.take 5 (.take 6 (.take 7 (.take 8 (.take 9 (.act 10 (.act 11 (.take 12 (.take 13 (.take 14 (.take 15 (.act 16 (.act 17 (.act 18 (.take 19 (.cut 0 (.act 20 .done .stop))) .stop) .stop) (.act 17 (.act 16 (.act 18 (.take 19 (.cut 0 (.act 20 .done .stop))) .stop) .stop) .stop)))))) (.act 16 (.act 11 (.take 12 (.take 13 (.take 14 (.take 15 (.act 17 (.act 18 (.take 19 (.cut 0 (.act 20 .done .stop))) .stop) .stop))))) (.act 17 (.act 11 (.take 12 (.take 13 (.take 14 (.take 15 (.act 18 (.take 19 (.cut 0 (.act 20 .done .stop))) .stop))))) .stop) .stop)) (.act 17 (.act 11 (.take 12 (.take 13 (.take 14 (.take 15 (.act 16 (.act 18 (.take 19 (.cut 0 (.act 20 .done .stop))) .stop) .stop))))) (.act 16 (.act 11 (.take 12 (.take 13 (.take 14 (.take 15 (.act 18 (.take 19 (.cut 0 (.act 20 .done .stop))) .stop))))) .stop) .stop)) .stop))) (.act 16 (.act 10 (.act 11 (.take 12 (.take 13 (.take 14 (.take 15 (.act 17 (.act 18 (.take 19 (.cut 0 (.act 20 .done .stop))) .stop) .stop))))) (.act 17 (.act 11 (.take 12 (.take 13 (.take 14 (.take 15 (.act 18 (.take 19 (.cut 0 (.act 20 .done .stop))) .stop))))) .stop) .stop)) (.act 17 (.act 10 (.act 11 (.take 12 (.take 13 (.take 14 (.take 15 (.act 18 (.take 19 (.cut 0 (.act 20 .done .stop))) .stop))))) .stop) .stop) .stop)) (.act 17 (.act 10 (.act 11 (.take 12 (.take 13 (.take 14 (.take 15 (.act 16 (.act 18 (.take 19 (.cut 0 (.act 20 .done .stop))) .stop) .stop))))) (.act 16 (.act 11 (.take 12 (.take 13 (.take 14 (.take 15 (.act 18 (.take 19 (.cut 0 (.act 20 .done .stop))) .stop))))) .stop) .stop)) (.act 16 (.act 10 (.act 11 (.take 12 (.take 13 (.take 14 (.take 15 (.act 18 (.take 19 (.cut 0 (.act 20 .done .stop))) .stop))))) .stop) .stop) .stop)) .stop)))))))))))))) | _ => none }
def S63 (P : Program) (E : List PanicEntry → Heap → Prop) (t0 : Value) (h : Heap) (R : Value → Heap → Prop) : Prop :=
  pAlloc P 36 h fun t2 h1 =>
  Reads P (nilS t0) h1 fun t8 =>
  Reads P (Instr.fieldAt 71 t8 0) h1 fun t9 =>
  pLoad P 29 t9 h1 fun t10 =>
  Reads P (nilS t0) h1 fun t12 =>
  Reads P (Instr.fieldAt 71 t12 1) h1 fun t13 =>
  pLoad P 3 t13 h1 fun t14 =>
  Reads P (Instr.indexAt 29 t10 t14) h1 fun t15 =>
  pLoad P 5 t15 h1 fun t16 =>
  Reads P (binS .eql 5 true t16 (.int .u8 46)) h1 fun t19 =>
  boolV t19 fun b1 => bcase b1 (
    Reads P (nilS t0) h1 fun t21 =>
    Reads P (Instr.fieldAt 71 t21 1) h1 fun t22 =>
    pLoad P 3 t22 h1 fun t23 =>
    Reads P (binS .add 3 true t23 (.int .i64 1)) h1 fun t24 =>
    Reads P (nilS t0) h1 fun t25 =>
    Reads P (Instr.fieldAt 71 t25 1) h1 fun t26 =>
    pStore P 3 t26 t24 h1 fun h2 =>
    CallsH P 88 #[] h2 (fun t27 h3 =>
    pStore P 36 t2 t27 h3 fun h4 =>
    pLoad P 36 t2 h4 fun r2 => R r2 h4) E) (
    Reads P (binS .eql 5 true t16 (.int .u8 91)) h1 fun t30 =>
    boolV t30 fun b3 => bcase b3 (
      Stable h1 fun S4 =>
      ReadsS P (nilS t0) S4 fun t33 =>
      ReadsS P (Instr.fieldAt 71 t33 0) S4 fun t34 =>
      pLoadS P 29 t34 S4 fun t35 =>
      ReadsS P (nilS t0) S4 fun t37 =>
      ReadsS P (Instr.fieldAt 71 t37 1) S4 fun t38 =>
      pLoadS P 3 t38 S4 fun t39 =>
      ReadsS P (binS .add 3 true t39 (.int .i64 1)) S4 fun t40 =>
      (CallsH P 35 #[t0] h1 (fun t42 h5 =>
      S4 h5 ∧ ((CallsH P 64 #[t35, t40, t42] h5 (fun t43 h6 =>
      S4 h6 ∧ (ReadsS P (Instr.extract t43 0) S4 fun t44 =>
      ReadsS P (Instr.extract t43 1) S4 fun t45 =>
      ReadsS P (Instr.extract t43 2) S4 fun t46 =>
      (pAlloc P 33 h6 fun t4 h7 =>
      S4 h7 ∧ ((pAlloc P 42 h7 fun t6 h8 =>
      S4 h8 ∧ ((pStore P 33 t4 t44 h8 fun h9 =>
      S4 h9 ∧ ((pStore P 42 t6 t46 h9 fun h10 =>
      True ∧ (Reads P (Instr.fieldAt 42 t6 0) h10 fun t47 =>
      pLoad P 3 t47 h10 fun t48 =>
      Reads P (binS .neq 3 true t48 (.int .i64 0)) h10 fun t49 =>
      boolV t49 fun b5 => bcase b5 (
        Reads P (Instr.fieldAt 42 t6 0) h10 fun t51 =>
        pLoad P 3 t51 h10 fun t52 =>
        Reads P (Instr.fieldAt 42 t6 1) h10 fun t53 =>
        pLoad P 3 t53 h10 fun t54 =>
        CallsH P 37 #[t0, t52, t54] h10 (fun t55 h11 =>
        pStore P 36 t2 t55 h11 fun h12 =>
        pLoad P 36 t2 h12 fun r6 => R r6 h12) E) (
        Reads P (nilS t0) h10 fun t58 =>
      Reads P (Instr.fieldAt 71 t58 1) h10 fun t59 =>
      pStore P 3 t59 t45 h10 fun h13 =>
      pLoad P 33 t4 h13 fun t60 =>
      Reads P (Instr.build 36 #[(0, (.int .i64 1)), (1, t60)]) h13 fun t61 =>
      pStore P 36 t2 t61 h13 fun h14 =>
      pLoad P 36 t2 h14 fun r7 => R r7 h14))) ∧ True)) ∧ True)) ∧ True)) ∧ ((pAlloc P 42 h6 fun t6_2 h15 =>
      S4 h15 ∧ ((pAlloc P 33 h15 fun t4_2 h16 =>
      S4 h16 ∧ ((pStore P 33 t4_2 t44 h16 fun h17 =>
      S4 h17 ∧ ((pStore P 42 t6_2 t46 h17 fun h18 =>
      True ∧ (Reads P (Instr.fieldAt 42 t6_2 0) h18 fun t47_2 =>
      pLoad P 3 t47_2 h18 fun t48_2 =>
      Reads P (binS .neq 3 true t48_2 (.int .i64 0)) h18 fun t49_2 =>
      boolV t49_2 fun b8 => bcase b8 (
        Reads P (Instr.fieldAt 42 t6_2 0) h18 fun t51_2 =>
        pLoad P 3 t51_2 h18 fun t52_2 =>
        Reads P (Instr.fieldAt 42 t6_2 1) h18 fun t53_2 =>
        pLoad P 3 t53_2 h18 fun t54_2 =>
        CallsH P 37 #[t0, t52_2, t54_2] h18 (fun t55_2 h19 =>
        pStore P 36 t2 t55_2 h19 fun h20 =>
        pLoad P 36 t2 h20 fun r9 => R r9 h20) E) (
        Reads P (nilS t0) h18 fun t58_2 =>
      Reads P (Instr.fieldAt 71 t58_2 1) h18 fun t59_2 =>
      pStore P 3 t59_2 t45 h18 fun h21 =>
      pLoad P 33 t4_2 h21 fun t60_2 =>
      Reads P (Instr.build 36 #[(0, (.int .i64 1)), (1, t60_2)]) h21 fun t61_2 =>
      pStore P 36 t2 t61_2 h21 fun h22 =>
      pLoad P 36 t2 h22 fun r10 => R r10 h22))) ∧ True)) ∧ True)) ∧ True)) ∧ True))) E) ∧ ((pAlloc P 33 h5 fun t4_3 h23 =>
      S4 h23 ∧ ((CallsH P 64 #[t35, t40, t42] h23 (fun t43_2 h24 =>
      S4 h24 ∧ (ReadsS P (Instr.extract t43_2 0) S4 fun t44_2 =>
      ReadsS P (Instr.extract t43_2 1) S4 fun t45_2 =>
      ReadsS P (Instr.extract t43_2 2) S4 fun t46_2 =>
      (pAlloc P 42 h24 fun t6_3 h25 =>
      S4 h25 ∧ ((pStore P 33 t4_3 t44_2 h25 fun h26 =>
      S4 h26 ∧ ((pStore P 42 t6_3 t46_2 h26 fun h27 =>
      True ∧ (Reads P (Instr.fieldAt 42 t6_3 0) h27 fun t47_3 =>
      pLoad P 3 t47_3 h27 fun t48_3 =>
      Reads P (binS .neq 3 true t48_3 (.int .i64 0)) h27 fun t49_3 =>
      boolV t49_3 fun b11 => bcase b11 (
        Reads P (Instr.fieldAt 42 t6_3 0) h27 fun t51_3 =>
        pLoad P 3 t51_3 h27 fun t52_3 =>
        Reads P (Instr.fieldAt 42 t6_3 1) h27 fun t53_3 =>
        pLoad P 3 t53_3 h27 fun t54_3 =>
        CallsH P 37 #[t0, t52_3, t54_3] h27 (fun t55_3 h28 =>
        pStore P 36 t2 t55_3 h28 fun h29 =>
        pLoad P 36 t2 h29 fun r12 => R r12 h29) E) (
        Reads P (nilS t0) h27 fun t58_3 =>
      Reads P (Instr.fieldAt 71 t58_3 1) h27 fun t59_3 =>
      pStore P 3 t59_3 t45_2 h27 fun h30 =>
      pLoad P 33 t4_3 h30 fun t60_3 =>
      Reads P (Instr.build 36 #[(0, (.int .i64 1)), (1, t60_3)]) h30 fun t61_3 =>
      pStore P 36 t2 t61_3 h30 fun h31 =>
      pLoad P 36 t2 h31 fun r13 => R r13 h31))) ∧ True)) ∧ True)) ∧ True)) E) ∧ ((pAlloc P 42 h23 fun t6_4 h32 =>
      S4 h32 ∧ ((CallsH P 64 #[t35, t40, t42] h32 (fun t43_3 h33 =>
      S4 h33 ∧ (ReadsS P (Instr.extract t43_3 0) S4 fun t44_3 =>
      ReadsS P (Instr.extract t43_3 1) S4 fun t45_3 =>
      ReadsS P (Instr.extract t43_3 2) S4 fun t46_3 =>
      (pStore P 33 t4_3 t44_3 h33 fun h34 =>
      S4 h34 ∧ ((pStore P 42 t6_4 t46_3 h34 fun h35 =>
      True ∧ (Reads P (Instr.fieldAt 42 t6_4 0) h35 fun t47_4 =>
      pLoad P 3 t47_4 h35 fun t48_4 =>
      Reads P (binS .neq 3 true t48_4 (.int .i64 0)) h35 fun t49_4 =>
      boolV t49_4 fun b14 => bcase b14 (
        Reads P (Instr.fieldAt 42 t6_4 0) h35 fun t51_4 =>
        pLoad P 3 t51_4 h35 fun t52_4 =>
        Reads P (Instr.fieldAt 42 t6_4 1) h35 fun t53_4 =>
        pLoad P 3 t53_4 h35 fun t54_4 =>
        CallsH P 37 #[t0, t52_4, t54_4] h35 (fun t55_4 h36 =>
        pStore P 36 t2 t55_4 h36 fun h37 =>
        pLoad P 36 t2 h37 fun r15 => R r15 h37) E) (
        Reads P (nilS t0) h35 fun t58_4 =>
      Reads P (Instr.fieldAt 71 t58_4 1) h35 fun t59_4 =>
      pStore P 3 t59_4 t45_3 h35 fun h38 =>
      pLoad P 33 t4_3 h38 fun t60_4 =>
      Reads P (Instr.build 36 #[(0, (.int .i64 1)), (1, t60_4)]) h38 fun t61_4 =>
      pStore P 36 t2 t61_4 h38 fun h39 =>
      pLoad P 36 t2 h39 fun r16 => R r16 h39))) ∧ True)) ∧ True)) E) ∧ True)) ∧ True))) ∧ ((pAlloc P 42 h5 fun t6_5 h40 =>
      S4 h40 ∧ ((CallsH P 64 #[t35, t40, t42] h40 (fun t43_4 h41 =>
      S4 h41 ∧ (ReadsS P (Instr.extract t43_4 0) S4 fun t44_4 =>
      ReadsS P (Instr.extract t43_4 1) S4 fun t45_4 =>
      ReadsS P (Instr.extract t43_4 2) S4 fun t46_4 =>
      (pAlloc P 33 h41 fun t4_4 h42 =>
      S4 h42 ∧ ((pStore P 33 t4_4 t44_4 h42 fun h43 =>
      S4 h43 ∧ ((pStore P 42 t6_5 t46_4 h43 fun h44 =>
      True ∧ (Reads P (Instr.fieldAt 42 t6_5 0) h44 fun t47_5 =>
      pLoad P 3 t47_5 h44 fun t48_5 =>
      Reads P (binS .neq 3 true t48_5 (.int .i64 0)) h44 fun t49_5 =>
      boolV t49_5 fun b17 => bcase b17 (
        Reads P (Instr.fieldAt 42 t6_5 0) h44 fun t51_5 =>
        pLoad P 3 t51_5 h44 fun t52_5 =>
        Reads P (Instr.fieldAt 42 t6_5 1) h44 fun t53_5 =>
        pLoad P 3 t53_5 h44 fun t54_5 =>
        CallsH P 37 #[t0, t52_5, t54_5] h44 (fun t55_5 h45 =>
        pStore P 36 t2 t55_5 h45 fun h46 =>
        pLoad P 36 t2 h46 fun r18 => R r18 h46) E) (
        Reads P (nilS t0) h44 fun t58_5 =>
      Reads P (Instr.fieldAt 71 t58_5 1) h44 fun t59_5 =>
      pStore P 3 t59_5 t45_4 h44 fun h47 =>
      pLoad P 33 t4_4 h47 fun t60_5 =>
      Reads P (Instr.build 36 #[(0, (.int .i64 1)), (1, t60_5)]) h47 fun t61_5 =>
      pStore P 36 t2 t61_5 h47 fun h48 =>
      pLoad P 36 t2 h48 fun r19 => R r19 h48))) ∧ True)) ∧ True)) ∧ True)) E) ∧ ((pAlloc P 33 h40 fun t4_5 h49 =>
      S4 h49 ∧ ((CallsH P 64 #[t35, t40, t42] h49 (fun t43_5 h50 =>
      S4 h50 ∧ (ReadsS P (Instr.extract t43_5 0) S4 fun t44_5 =>
      ReadsS P (Instr.extract t43_5 1) S4 fun t45_5 =>
      ReadsS P (Instr.extract t43_5 2) S4 fun t46_5 =>
      (pStore P 33 t4_5 t44_5 h50 fun h51 =>
      S4 h51 ∧ ((pStore P 42 t6_5 t46_5 h51 fun h52 =>
      True ∧ (Reads P (Instr.fieldAt 42 t6_5 0) h52 fun t47_6 =>
      pLoad P 3 t47_6 h52 fun t48_6 =>
      Reads P (binS .neq 3 true t48_6 (.int .i64 0)) h52 fun t49_6 =>
      boolV t49_6 fun b20 => bcase b20 (
        Reads P (Instr.fieldAt 42 t6_5 0) h52 fun t51_6 =>
        pLoad P 3 t51_6 h52 fun t52_6 =>
        Reads P (Instr.fieldAt 42 t6_5 1) h52 fun t53_6 =>
        pLoad P 3 t53_6 h52 fun t54_6 =>
        CallsH P 37 #[t0, t52_6, t54_6] h52 (fun t55_6 h53 =>
        pStore P 36 t2 t55_6 h53 fun h54 =>
        pLoad P 36 t2 h54 fun r21 => R r21 h54) E) (
        Reads P (nilS t0) h52 fun t58_6 =>
      Reads P (Instr.fieldAt 71 t58_6 1) h52 fun t59_6 =>
      pStore P 3 t59_6 t45_5 h52 fun h55 =>
      pLoad P 33 t4_5 h55 fun t60_6 =>
      Reads P (Instr.build 36 #[(0, (.int .i64 1)), (1, t60_6)]) h55 fun t61_6 =>
      pStore P 36 t2 t61_6 h55 fun h56 =>
      pLoad P 36 t2 h56 fun r22 => R r22 h56))) ∧ True)) ∧ True)) E) ∧ True)) ∧ True))) ∧ True)))) E) ∧ ((pAlloc P 33 h1 fun t4_6 h57 =>
      S4 h57 ∧ ((CallsH P 35 #[t0] h57 (fun t42_2 h58 =>
      S4 h58 ∧ ((CallsH P 64 #[t35, t40, t42_2] h58 (fun t43_6 h59 =>
      S4 h59 ∧ (ReadsS P (Instr.extract t43_6 0) S4 fun t44_6 =>
      ReadsS P (Instr.extract t43_6 1) S4 fun t45_6 =>
      ReadsS P (Instr.extract t43_6 2) S4 fun t46_6 =>
      (pAlloc P 42 h59 fun t6_6 h60 =>
      S4 h60 ∧ ((pStore P 33 t4_6 t44_6 h60 fun h61 =>
      S4 h61 ∧ ((pStore P 42 t6_6 t46_6 h61 fun h62 =>
      True ∧ (Reads P (Instr.fieldAt 42 t6_6 0) h62 fun t47_7 =>
      pLoad P 3 t47_7 h62 fun t48_7 =>
      Reads P (binS .neq 3 true t48_7 (.int .i64 0)) h62 fun t49_7 =>
      boolV t49_7 fun b23 => bcase b23 (
        Reads P (Instr.fieldAt 42 t6_6 0) h62 fun t51_7 =>
        pLoad P 3 t51_7 h62 fun t52_7 =>
        Reads P (Instr.fieldAt 42 t6_6 1) h62 fun t53_7 =>
        pLoad P 3 t53_7 h62 fun t54_7 =>
        CallsH P 37 #[t0, t52_7, t54_7] h62 (fun t55_7 h63 =>
        pStore P 36 t2 t55_7 h63 fun h64 =>
        pLoad P 36 t2 h64 fun r24 => R r24 h64) E) (
        Reads P (nilS t0) h62 fun t58_7 =>
      Reads P (Instr.fieldAt 71 t58_7 1) h62 fun t59_7 =>
      pStore P 3 t59_7 t45_6 h62 fun h65 =>
      pLoad P 33 t4_6 h65 fun t60_7 =>
      Reads P (Instr.build 36 #[(0, (.int .i64 1)), (1, t60_7)]) h65 fun t61_7 =>
      pStore P 36 t2 t61_7 h65 fun h66 =>
      pLoad P 36 t2 h66 fun r25 => R r25 h66))) ∧ True)) ∧ True)) ∧ True)) E) ∧ ((pAlloc P 42 h58 fun t6_7 h67 =>
      S4 h67 ∧ ((CallsH P 64 #[t35, t40, t42_2] h67 (fun t43_7 h68 =>
      S4 h68 ∧ (ReadsS P (Instr.extract t43_7 0) S4 fun t44_7 =>
      ReadsS P (Instr.extract t43_7 1) S4 fun t45_7 =>
      ReadsS P (Instr.extract t43_7 2) S4 fun t46_7 =>
      (pStore P 33 t4_6 t44_7 h68 fun h69 =>
      S4 h69 ∧ ((pStore P 42 t6_7 t46_7 h69 fun h70 =>
      True ∧ (Reads P (Instr.fieldAt 42 t6_7 0) h70 fun t47_8 =>
      pLoad P 3 t47_8 h70 fun t48_8 =>
      Reads P (binS .neq 3 true t48_8 (.int .i64 0)) h70 fun t49_8 =>
      boolV t49_8 fun b26 => bcase b26 (
        Reads P (Instr.fieldAt 42 t6_7 0) h70 fun t51_8 =>
        pLoad P 3 t51_8 h70 fun t52_8 =>
        Reads P (Instr.fieldAt 42 t6_7 1) h70 fun t53_8 =>
        pLoad P 3 t53_8 h70 fun t54_8 =>
        CallsH P 37 #[t0, t52_8, t54_8] h70 (fun t55_8 h71 =>
        pStore P 36 t2 t55_8 h71 fun h72 =>
        pLoad P 36 t2 h72 fun r27 => R r27 h72) E) (
        Reads P (nilS t0) h70 fun t58_8 =>
      Reads P (Instr.fieldAt 71 t58_8 1) h70 fun t59_8 =>
      pStore P 3 t59_8 t45_7 h70 fun h73 =>
      pLoad P 33 t4_6 h73 fun t60_8 =>
      Reads P (Instr.build 36 #[(0, (.int .i64 1)), (1, t60_8)]) h73 fun t61_8 =>
      pStore P 36 t2 t61_8 h73 fun h74 =>
      pLoad P 36 t2 h74 fun r28 => R r28 h74))) ∧ True)) ∧ True)) E) ∧ True)) ∧ True))) E) ∧ ((pAlloc P 42 h57 fun t6_8 h75 =>
      S4 h75 ∧ ((CallsH P 35 #[t0] h75 (fun t42_3 h76 =>
      S4 h76 ∧ ((CallsH P 64 #[t35, t40, t42_3] h76 (fun t43_8 h77 =>
      S4 h77 ∧ (ReadsS P (Instr.extract t43_8 0) S4 fun t44_8 =>
      ReadsS P (Instr.extract t43_8 1) S4 fun t45_8 =>
      ReadsS P (Instr.extract t43_8 2) S4 fun t46_8 =>
      (pStore P 33 t4_6 t44_8 h77 fun h78 =>
      S4 h78 ∧ ((pStore P 42 t6_8 t46_8 h78 fun h79 =>
      True ∧ (Reads P (Instr.fieldAt 42 t6_8 0) h79 fun t47_9 =>
      pLoad P 3 t47_9 h79 fun t48_9 =>
      Reads P (binS .neq 3 true t48_9 (.int .i64 0)) h79 fun t49_9 =>
      boolV t49_9 fun b29 => bcase b29 (
        Reads P (Instr.fieldAt 42 t6_8 0) h79 fun t51_9 =>
        pLoad P 3 t51_9 h79 fun t52_9 =>
        Reads P (Instr.fieldAt 42 t6_8 1) h79 fun t53_9 =>
        pLoad P 3 t53_9 h79 fun t54_9 =>
        CallsH P 37 #[t0, t52_9, t54_9] h79 (fun t55_9 h80 =>
        pStore P 36 t2 t55_9 h80 fun h81 =>
        pLoad P 36 t2 h81 fun r30 => R r30 h81) E) (
        Reads P (nilS t0) h79 fun t58_9 =>
      Reads P (Instr.fieldAt 71 t58_9 1) h79 fun t59_9 =>
      pStore P 3 t59_9 t45_8 h79 fun h82 =>
      pLoad P 33 t4_6 h82 fun t60_9 =>
      Reads P (Instr.build 36 #[(0, (.int .i64 1)), (1, t60_9)]) h82 fun t61_9 =>
      pStore P 36 t2 t61_9 h82 fun h83 =>
      pLoad P 36 t2 h83 fun r31 => R r31 h83))) ∧ True)) ∧ True)) E) ∧ True)) E) ∧ True)) ∧ True))) ∧ ((pAlloc P 42 h1 fun t6_9 h84 =>
      S4 h84 ∧ ((CallsH P 35 #[t0] h84 (fun t42_4 h85 =>
      S4 h85 ∧ ((CallsH P 64 #[t35, t40, t42_4] h85 (fun t43_9 h86 =>
      S4 h86 ∧ (ReadsS P (Instr.extract t43_9 0) S4 fun t44_9 =>
      ReadsS P (Instr.extract t43_9 1) S4 fun t45_9 =>
      ReadsS P (Instr.extract t43_9 2) S4 fun t46_9 =>
      (pAlloc P 33 h86 fun t4_7 h87 =>
      S4 h87 ∧ ((pStore P 33 t4_7 t44_9 h87 fun h88 =>
      S4 h88 ∧ ((pStore P 42 t6_9 t46_9 h88 fun h89 =>
      True ∧ (Reads P (Instr.fieldAt 42 t6_9 0) h89 fun t47_10 =>
      pLoad P 3 t47_10 h89 fun t48_10 =>
      Reads P (binS .neq 3 true t48_10 (.int .i64 0)) h89 fun t49_10 =>
      boolV t49_10 fun b32 => bcase b32 (
        Reads P (Instr.fieldAt 42 t6_9 0) h89 fun t51_10 =>
        pLoad P 3 t51_10 h89 fun t52_10 =>
        Reads P (Instr.fieldAt 42 t6_9 1) h89 fun t53_10 =>
        pLoad P 3 t53_10 h89 fun t54_10 =>
        CallsH P 37 #[t0, t52_10, t54_10] h89 (fun t55_10 h90 =>
        pStore P 36 t2 t55_10 h90 fun h91 =>
        pLoad P 36 t2 h91 fun r33 => R r33 h91) E) (
        Reads P (nilS t0) h89 fun t58_10 =>
      Reads P (Instr.fieldAt 71 t58_10 1) h89 fun t59_10 =>
      pStore P 3 t59_10 t45_9 h89 fun h92 =>
      pLoad P 33 t4_7 h92 fun t60_10 =>
      Reads P (Instr.build 36 #[(0, (.int .i64 1)), (1, t60_10)]) h92 fun t61_10 =>
      pStore P 36 t2 t61_10 h92 fun h93 =>
      pLoad P 36 t2 h93 fun r34 => R r34 h93))) ∧ True)) ∧ True)) ∧ True)) E) ∧ ((pAlloc P 33 h85 fun t4_8 h94 =>
      S4 h94 ∧ ((CallsH P 64 #[t35, t40, t42_4] h94 (fun t43_10 h95 =>
      S4 h95 ∧ (ReadsS P (Instr.extract t43_10 0) S4 fun t44_10 =>
      ReadsS P (Instr.extract t43_10 1) S4 fun t45_10 =>
      ReadsS P (Instr.extract t43_10 2) S4 fun t46_10 =>
      (pStore P 33 t4_8 t44_10 h95 fun h96 =>
      S4 h96 ∧ ((pStore P 42 t6_9 t46_10 h96 fun h97 =>
      True ∧ (Reads P (Instr.fieldAt 42 t6_9 0) h97 fun t47_11 =>
      pLoad P 3 t47_11 h97 fun t48_11 =>
      Reads P (binS .neq 3 true t48_11 (.int .i64 0)) h97 fun t49_11 =>
      boolV t49_11 fun b35 => bcase b35 (
        Reads P (Instr.fieldAt 42 t6_9 0) h97 fun t51_11 =>
        pLoad P 3 t51_11 h97 fun t52_11 =>
        Reads P (Instr.fieldAt 42 t6_9 1) h97 fun t53_11 =>
        pLoad P 3 t53_11 h97 fun t54_11 =>
        CallsH P 37 #[t0, t52_11, t54_11] h97 (fun t55_11 h98 =>
        pStore P 36 t2 t55_11 h98 fun h99 =>
        pLoad P 36 t2 h99 fun r36 => R r36 h99) E) (
        Reads P (nilS t0) h97 fun t58_11 =>
      Reads P (Instr.fieldAt 71 t58_11 1) h97 fun t59_11 =>
      pStore P 3 t59_11 t45_10 h97 fun h100 =>
      pLoad P 33 t4_8 h100 fun t60_11 =>
      Reads P (Instr.build 36 #[(0, (.int .i64 1)), (1, t60_11)]) h100 fun t61_11 =>
      pStore P 36 t2 t61_11 h100 fun h101 =>
      pLoad P 36 t2 h101 fun r37 => R r37 h101))) ∧ True)) ∧ True)) E) ∧ True)) ∧ True))) E) ∧ ((pAlloc P 33 h84 fun t4_9 h102 =>
      S4 h102 ∧ ((CallsH P 35 #[t0] h102 (fun t42_5 h103 =>
      S4 h103 ∧ ((CallsH P 64 #[t35, t40, t42_5] h103 (fun t43_11 h104 =>
      S4 h104 ∧ (ReadsS P (Instr.extract t43_11 0) S4 fun t44_11 =>
      ReadsS P (Instr.extract t43_11 1) S4 fun t45_11 =>
      ReadsS P (Instr.extract t43_11 2) S4 fun t46_11 =>
      (pStore P 33 t4_9 t44_11 h104 fun h105 =>
      S4 h105 ∧ ((pStore P 42 t6_9 t46_11 h105 fun h106 =>
      True ∧ (Reads P (Instr.fieldAt 42 t6_9 0) h106 fun t47_12 =>
      pLoad P 3 t47_12 h106 fun t48_12 =>
      Reads P (binS .neq 3 true t48_12 (.int .i64 0)) h106 fun t49_12 =>
      boolV t49_12 fun b38 => bcase b38 (
        Reads P (Instr.fieldAt 42 t6_9 0) h106 fun t51_12 =>
        pLoad P 3 t51_12 h106 fun t52_12 =>
        Reads P (Instr.fieldAt 42 t6_9 1) h106 fun t53_12 =>
        pLoad P 3 t53_12 h106 fun t54_12 =>
        CallsH P 37 #[t0, t52_12, t54_12] h106 (fun t55_12 h107 =>
        pStore P 36 t2 t55_12 h107 fun h108 =>
        pLoad P 36 t2 h108 fun r39 => R r39 h108) E) (
        Reads P (nilS t0) h106 fun t58_12 =>
      Reads P (Instr.fieldAt 71 t58_12 1) h106 fun t59_12 =>
      pStore P 3 t59_12 t45_11 h106 fun h109 =>
      pLoad P 33 t4_9 h109 fun t60_12 =>
      Reads P (Instr.build 36 #[(0, (.int .i64 1)), (1, t60_12)]) h109 fun t61_12 =>
      pStore P 36 t2 t61_12 h109 fun h110 =>
      pLoad P 36 t2 h110 fun r40 => R r40 h110))) ∧ True)) ∧ True)) E) ∧ True)) E) ∧ True)) ∧ True))) ∧ True))) (
      CallsH P 85 #[t0, (str [40])] h1 (fun t65 h111 =>
      CallsH P 36 #[t0, t65] h111 (fun t66 h112 =>
      boolV t66 fun b41 => bcase b41 (
        CallsH P 89 #[t0] h112 (fun t68 h113 =>
        pStore P 36 t2 t68 h113 fun h114 =>
        pLoad P 36 t2 h114 fun r42 => R r42 h114) E) (
        Join1 (fun J43 =>
          CallsH P 85 #[t0, (str [123])] h112 (fun t72 h115 =>
          CallsH P 36 #[t0, t72] h115 (fun t73 h116 =>
          boolV t73 fun b44 => bcase b44 (
            J43 (.bool true) h116) (
            Join1 (fun J45 =>
              Reads P (nilS t0) h116 fun t75 =>
              Reads P (Instr.fieldAt 71 t75 2) h116 fun t76 =>
              pLoad P 4 t76 h116 fun t77 =>
              Reads P (Op.unary .not t77) h116 fun t78 =>
              boolV t78 fun b46 => bcase b46 (
              CallsH P 36 #[t0, (str [92, 125])] h116 (fun t81 h117 =>
              J45 t81 h117) E) (
              J45 (.bool false) h116))
            (fun t69 h118 =>
            boolV t69 fun b47 => bcase b47 (
              J43 (.bool true) h118) (
              Reads P (nilS t0) h118 fun t84 =>
              Reads P (Instr.fieldAt 71 t84 2) h118 fun t85 =>
              pLoad P 4 t85 h118 fun t86 =>
              boolV t86 fun b48 => bcase b48 (
              CallsH P 90 #[t16, (str [42, 43, 63])] h118 (fun t89 h119 =>
              J43 t89 h119) E) (
              J43 (.bool false) h118))))) E) E)
        (fun t69_2 h120 =>
        boolV t69_2 fun b49 => bcase b49 (
          Reads P (nilS t0) h120 fun t93 =>
          Reads P (Instr.fieldAt 71 t93 1) h120 fun t94 =>
          pLoad P 3 t94 h120 fun t95 =>
          CallsH P 37 #[t0, (.int .i64 3), t95] h120 (fun t96 h121 =>
          pStore P 36 t2 t96 h121 fun h122 =>
          pLoad P 36 t2 h122 fun r50 => R r50 h122) E) (
          Reads P (binS .eql 5 true t16 (.int .u8 92)) h120 fun t99 =>
          boolV t99 fun b51 => bcase b51 (
            CallsH P 91 #[t0] h120 (fun t101 h123 =>
            pStore P 36 t2 t101 h123 fun h124 =>
            pLoad P 36 t2 h124 fun r52 => R r52 h124) E) (
            Reads P (nilS t0) h120 fun t103 =>
  Reads P (Instr.fieldAt 71 t103 1) h120 fun t104 =>
  pLoad P 3 t104 h120 fun t105 =>
  Reads P (binS .add 3 true t105 (.int .i64 1)) h120 fun t106 =>
  Reads P (nilS t0) h120 fun t107 =>
  Reads P (Instr.fieldAt 71 t107 1) h120 fun t108 =>
  pStore P 3 t108 t106 h120 fun h125 =>
  CallsH P 15 #[t16] h125 (fun t110 h126 =>
  pStore P 36 t2 t110 h126 fun h127 =>
  pLoad P 36 t2 h127 fun r53 => R r53 h127) E))))) E) E))
theorem C63 {E : List PanicEntry → Heap → Prop} {t0 : Value} {h : Heap} {R : Value → Heap → Prop} (hs : S63 Tryz.prog E t0 h R) : CallsH Tryz.prog 63 #[t0] h R E :=
  calls_of_vc H63 Tryz.mixed Tryz.func63 rfl (by kernel_rfl) (by kernel_rfl) (Eq.mp (show S63 Tryz.prog E t0 h R = vcFun Tryz.prog H63 E Tryz.f63.results.toList _ [t0] h R from by kernel_rfl) hs)

def H64 : Hints := { r := fun _ => none, s := fun i => match i with | 2 => some [40] | 7 => some [10, 11] | 12 => some [87] | 14 => some [] | 23 => some [138] | _ => none, l := fun i => match i with | 9 => some [10, 12] | _ => none, d := fun i => match i with | 31 => some (.cut 2 (.take 0 (.take 1 (.take 2 (.take 3 (.take 4 (.act 5 (.cut 0 (.act 6 (.cut 0 (.act 7 .done .stop)) .stop)) .stop))))))) | _ => none }
def S64 (P : Program) (E : List PanicEntry → Heap → Prop) (t0 t1 t2 : Value) (h : Heap) (R : Value → Heap → Prop) : Prop :=
  pAlloc P 33 h fun t6 h1 =>
  pAlloc P 42 h1 fun t8 h2 =>
  Join1 (fun J1 =>
    Reads P (binS .lss 3 true t1 (.int .i64 0)) h2 fun t22 =>
    boolV t22 fun b2 => bcase b2 (
    (undef = undef ∧ ((undef = undef ∧ ((undef = undef ∧ ((undef = undef ∧ (J1 (.bool true) h2))))))))) (
    Reads P (builtinS .len #[29] 3 #[t0]) h2 fun t26 =>
    Reads P (binS .gtr 3 false t1 t26) h2 fun t27 =>
    boolV t27 fun b3 => bcase b3 (
    (undef = undef ∧ ((undef = undef ∧ ((undef = undef ∧ ((undef = undef ∧ (J1 (.bool true) h2))))))))) (
    Reads P (binS .neq 3 true t2 (.int .i64 2)) h2 fun t31 =>
    boolV t31 fun b4 => bcase b4 (
    Reads P (binS .neq 3 true t2 (.int .i64 3)) h2 fun t34 =>
    boolV t34 fun b5 => bcase b5 (
    Reads P (binS .neq 3 true t2 (.int .i64 4)) h2 fun t38 =>
    J1 t38 h2) (
    J1 (.bool false) h2)) (
    J1 (.bool false) h2))))
  (fun t40 h3 =>
  boolV t40 fun b6 => bcase b6 (
    Reads P (Instr.build 33 #[]) h3 fun t41 =>
    CallsH P 34 #[(.int .i64 1), (.int .i64 0), t2] h3 (fun t43 h4 =>
    pStore P 33 t6 t41 h4 fun h5 =>
    pStore P 42 t8 t43 h5 fun h6 =>
    pLoad P 33 t6 h6 fun r7 => pLoad P 42 t8 h6 fun r8 => R (.tuple #[r7, (.int .i64 0), r8]) h6) E) (
    Reads P (Instr.build 33 #[]) h3 fun t44 =>
  pAlloc P 33 h3 fun t9 h7 =>
  pStore P 33 t9 t44 h7 fun h8 =>
  Join2 (fun J9 =>
    Reads P (builtinS .len #[29] 3 #[t0]) h8 fun t48 =>
    Reads P (binS .lss 3 false t1 t48) h8 fun t49 =>
    boolV t49 fun b10 => bcase b10 (
    Reads P (Instr.indexAt 29 t0 t1) h8 fun t53 =>
    pLoad P 5 t53 h8 fun t54 =>
    Reads P (binS .eql 5 true t54 (.int .u8 94)) h8 fun t55 =>
    boolV t55 fun b11 => bcase b11 (
    (undef = undef ∧ ((undef = undef ∧ ((undef = undef ∧ ((undef = undef ∧ ((undef = undef ∧ (Reads P (binS .add 3 true t1 (.int .i64 1)) h8 fun t69 =>
    J9 t69 (.bool true) h8))))))))))) (
    Reads P (binS .eql 3 true t2 (.int .i64 2)) h8 fun t58 =>
    boolV t58 fun b12 => bcase b12 (
    Reads P (Instr.indexAt 29 t0 t1) h8 fun t62 =>
    pLoad P 5 t62 h8 fun t63 =>
    Reads P (binS .eql 5 true t63 (.int .u8 33)) h8 fun t64 =>
    boolV t64 fun b13 => bcase b13 (
      Reads P (binS .add 3 true t1 (.int .i64 1)) h8 fun t69_2 =>
      J9 t69_2 (.bool true) h8) (
      J9 t1 (.bool false) h8)) (
    J9 t1 (.bool false) h8))) (
    (undef = undef ∧ ((undef = undef ∧ ((undef = undef ∧ ((undef = undef ∧ ((undef = undef ∧ ((undef = undef ∧ ((undef = undef ∧ ((undef = undef ∧ ((undef = undef ∧ (J9 t1 (.bool false) h8))))))))))))))))))))
  (fun t10 t11 h9 =>
  Loop2 t10 (.bool true) h9 (fun C14 t10_2 t12 h10 =>
    Reads P (builtinS .len #[29] 3 #[t0]) h10 fun t72 =>
    Reads P (binS .geq 3 false t10_2 t72) h10 fun t73 =>
    boolV t73 fun b15 => bcase b15 (
      Reads P (Instr.build 33 #[]) h10 fun t74 =>
      Reads P (builtinS .len #[29] 3 #[t0]) h10 fun t76 =>
      CallsH P 34 #[(.int .i64 8), t76, t2] h10 (fun t78 h11 =>
      pStore P 33 t6 t74 h11 fun h12 =>
      pStore P 42 t8 t78 h12 fun h13 =>
      pLoad P 33 t6 h13 fun r16 => pLoad P 42 t8 h13 fun r17 => R (.tuple #[r16, (.int .i64 0), r17]) h13) E) (
      Join1 (fun J18 =>
      Reads P (Instr.indexAt 29 t0 t10_2) h10 fun t81 =>
      pLoad P 5 t81 h10 fun t82 =>
      Reads P (binS .eql 5 true t82 (.int .u8 93)) h10 fun t83 =>
      boolV t83 fun b19 => bcase b19 (
      Reads P (Op.unary .not t12) h10 fun t86 =>
      J18 t86 h10) (
      J18 (.bool false) h10))
    (fun t87 h14 =>
    boolV t87 fun b20 => bcase b20 (
      Join0 (fun J21 =>
        boolV t11 fun b22 => bcase b22 (
          pLoad P 33 t9 h14 fun t89 =>
          CallsH P 46 #[t89] h14 (fun t90 h15 =>
          pStore P 33 t9 t90 h15 fun h16 =>
          J21 h16) E) (
          J21 h14))
      (fun h17 =>
      pLoad P 33 t9 h17 fun t91 =>
      Reads P (binS .add 3 true t10_2 (.int .i64 1)) h17 fun t93 =>
      Reads P (Instr.build 42 #[]) h17 fun t94 =>
      pStore P 33 t6 t91 h17 fun h18 =>
      pStore P 42 t8 t94 h18 fun h19 =>
      pLoad P 33 t6 h19 fun r23 => pLoad P 42 t8 h19 fun r24 => R (.tuple #[r23, t93, r24]) h19)) (
      CallsH P 92 #[t0, t10_2, t2] h14 (fun t100 h20 =>
    Reads P (Instr.extract t100 0) h20 fun t101 =>
    Reads P (Instr.extract t100 1) h20 fun t102 =>
    Reads P (Instr.extract t100 2) h20 fun t103 =>
    Reads P (Instr.extract t100 3) h20 fun t104 =>
    Reads P (Instr.extract t100 4) h20 fun t105 =>
    pAlloc P 33 h20 fun t15 h21 =>
    pStore P 33 t15 t102 h21 fun h22 =>
    Reads P (binS .neq 3 true t104 (.int .i64 0)) h22 fun t107 =>
    boolV t107 fun b25 => bcase b25 (
      Reads P (Instr.build 33 #[]) h22 fun t108 =>
      CallsH P 34 #[t104, t105, t2] h22 (fun t112 h23 =>
      pStore P 33 t6 t108 h23 fun h24 =>
      pStore P 42 t8 t112 h24 fun h25 =>
      pLoad P 33 t6 h25 fun r26 => pLoad P 42 t8 h25 fun r27 => R (.tuple #[r26, (.int .i64 0), r27]) h25) E) (
      Reads P (binS .lss 3 true t101 (.int .i64 0)) h22 fun t115 =>
    boolV t115 fun b28 => bcase b28 (
      pLoad P 33 t9 h22 fun t116 =>
      pLoad P 33 t15 h22 fun t117 =>
      CallsH P 93 #[t116, t117] h22 (fun t118 h26 =>
      pStore P 33 t9 t118 h26 fun h27 =>
      C14 t103 (.bool false) h27) E) (
      Join1 (fun J29 =>
      Reads P (binS .add 3 true t103 (.int .i64 1)) h22 fun t120 =>
      Reads P (builtinS .len #[29] 3 #[t0]) h22 fun t122 =>
      Reads P (binS .geq 3 false t120 t122) h22 fun t123 =>
      boolV t123 fun b30 => bcase b30 (
      J29 (.bool true) h22) (
      Reads P (Instr.indexAt 29 t0 t103) h22 fun t127 =>
      pLoad P 5 t127 h22 fun t128 =>
      Reads P (binS .neq 5 true t128 (.int .u8 45)) h22 fun t129 =>
      boolV t129 fun b31 => bcase b31 (
      J29 (.bool true) h22) (
      Reads P (binS .add 3 true t103 (.int .i64 1)) h22 fun t134 =>
      Reads P (Instr.indexAt 29 t0 t134) h22 fun t135 =>
      pLoad P 5 t135 h22 fun t136 =>
      Reads P (binS .eql 5 true t136 (.int .u8 93)) h22 fun t137 =>
      J29 t137 h22)))
    (fun t138 h28 =>
    boolV t138 fun b32 => bcase b32 (
      pLoad P 33 t9 h28 fun t139 =>
      Reads P (convert 3 5 t101) h28 fun t141 =>
      CallsH P 33 #[t139, t141] h28 (fun t142 h29 =>
      pStore P 33 t9 t142 h29 fun h30 =>
      C14 t103 (.bool false) h30) E) (
      Reads P (binS .add 3 true t103 (.int .i64 1)) h28 fun t146 =>
    CallsH P 92 #[t0, t146, t2] h28 (fun t148 h31 =>
    Reads P (Instr.extract t148 0) h31 fun t149 =>
    Reads P (Instr.extract t148 1) h31 fun t150 =>
    Reads P (Instr.extract t148 2) h31 fun t151 =>
    Reads P (Instr.extract t148 3) h31 fun t152 =>
    Reads P (Instr.extract t148 4) h31 fun t153 =>
    pAlloc P 33 h31 fun t20 h32 =>
    pStore P 33 t20 t150 h32 fun h33 =>
    Reads P (binS .neq 3 true t152 (.int .i64 0)) h33 fun t155 =>
    boolV t155 fun b33 => bcase b33 (
      Reads P (Instr.build 33 #[]) h33 fun t156 =>
      CallsH P 34 #[t152, t153, t2] h33 (fun t160 h34 =>
      pStore P 33 t6 t156 h34 fun h35 =>
      pStore P 42 t8 t160 h35 fun h36 =>
      pLoad P 33 t6 h36 fun r34 => pLoad P 42 t8 h36 fun r35 => R (.tuple #[r34, (.int .i64 0), r35]) h36) E) (
      Reads P (binS .lss 3 true t149 (.int .i64 0)) h33 fun t162 =>
    boolV t162 fun b36 => bcase b36 (
      Reads P (Instr.build 33 #[]) h33 fun t163 =>
      Reads P (binS .add 3 true t103 (.int .i64 1)) h33 fun t165 =>
      CallsH P 34 #[(.int .i64 8), t165, t2] h33 (fun t167 h37 =>
      pStore P 33 t6 t163 h37 fun h38 =>
      pStore P 42 t8 t167 h38 fun h39 =>
      pLoad P 33 t6 h39 fun r37 => pLoad P 42 t8 h39 fun r38 => R (.tuple #[r37, (.int .i64 0), r38]) h39) E) (
      Reads P (binS .gtr 3 false t101 t149) h33 fun t170 =>
    boolV t170 fun b39 => bcase b39 (
      Reads P (Instr.build 33 #[]) h33 fun t171 =>
      CallsH P 34 #[(.int .i64 7), t10_2, t2] h33 (fun t174 h40 =>
      pStore P 33 t6 t171 h40 fun h41 =>
      pStore P 42 t8 t174 h41 fun h42 =>
      pLoad P 33 t6 h42 fun r40 => pLoad P 42 t8 h42 fun r41 => R (.tuple #[r40, (.int .i64 0), r41]) h42) E) (
      Stable h33 fun S42 =>
    pLoadS P 33 t9 S42 fun t175 =>
    ReadsS P (convert 3 5 t101) S42 fun t177 =>
    ReadsS P (convert 3 5 t149) S42 fun t179 =>
    (CallsH P 94 #[t177, t179] h33 (fun t180 h43 =>
    S42 h43 ∧ ((CallsH P 93 #[t175, t180] h43 (fun t181 h44 =>
    True ∧ ((pStore P 33 t9 t181 h44 fun h45 =>
    True ∧ (C14 t151 (.bool false) h45)) ∧ True)) E) ∧ True)) E) ∧ True)))) E))))) E)))))))
theorem C64 {E : List PanicEntry → Heap → Prop} {t0 t1 t2 : Value} {h : Heap} {R : Value → Heap → Prop} (hs : S64 Tryz.prog E t0 t1 t2 h R) : CallsH Tryz.prog 64 #[t0, t1, t2] h R E :=
  calls_of_vc H64 Tryz.mixed Tryz.func64 rfl (by kernel_rfl) (by kernel_rfl) (Eq.mp (show S64 Tryz.prog E t0 t1 t2 h R = vcFun Tryz.prog H64 E Tryz.f64.results.toList _ [t0, t1, t2] h R from by kernel_rfl) hs)

def H65 : Hints := { r := fun _ => none, s := fun i => match i with | 3 => some [] | _ => none, l := fun _ => none, d := fun _ => none }
def S65 (P : Program) (E : List PanicEntry → Heap → Prop) (t0 t1 : Value) (h : Heap) (R : Value → Heap → Prop) : Prop :=
  Join0 (fun J1 =>
    Reads P (binS .eql 26 true t0 .nilIface) h fun t7 =>
    boolV t7 fun b2 => bcase b2 (
    Reads P (binS .eql 26 false t0 t1) h fun t14 =>
    R t14 h) (
    Reads P (binS .eql 26 true t1 .nilIface) h fun t10 =>
    boolV t10 fun b3 => bcase b3 (
      Reads P (binS .eql 26 false t0 t1) h fun t14_2 =>
      R t14_2 h) (
      J1 h)))
  (fun h1 =>
  Runs P ((do let d ← Deferred.ofValue (.func (.func 75) #[] #[]) #[t1]; invoke d.target d.args)) h1 (fun t16 h2 =>
  Runs P (invoke (.fn (.method "Comparable") #[]) (#[t16] ++ #[])) h2 (fun t17 h3 =>
  CallsH P 95 #[t0, t1, t17] h3 (fun t21 h4 =>
  R t21 h4) E) E) E)
theorem C65 {E : List PanicEntry → Heap → Prop} {t0 t1 : Value} {h : Heap} {R : Value → Heap → Prop} (hs : S65 Tryz.prog E t0 t1 h R) : CallsH Tryz.prog 65 #[t0, t1] h R E :=
  calls_of_vc H65 Tryz.mixed Tryz.func65 rfl (by kernel_rfl) (by kernel_rfl) (Eq.mp (show S65 Tryz.prog E t0 t1 h R = vcFun Tryz.prog H65 E Tryz.f65.results.toList _ [t0, t1] h R from by kernel_rfl) hs)

def H66 : Hints := { r := fun _ => none, s := fun _ => none, l := fun _ => none, d := fun _ => none }
def S66 (P : Program) (E : List PanicEntry → Heap → Prop) (h : Heap) (R : Value → Heap → Prop) : Prop :=
  pAlloc P 33 h fun t0 h1 =>
  Reads P (Instr.build 33 #[]) h1 fun t1 =>
  CallsH P 96 #[t1] h1 (fun t2 h2 =>
  pStore P 33 t0 t2 h2 fun h3 =>
  pLoad P 33 t0 h3 fun r1 => R r1 h3) E
theorem C66 {E : List PanicEntry → Heap → Prop} {h : Heap} {R : Value → Heap → Prop} (hs : S66 Tryz.prog E  h R) : CallsH Tryz.prog 66 #[] h R E :=
  calls_of_vc H66 Tryz.mixed Tryz.func66 rfl (by kernel_rfl) (by kernel_rfl) (Eq.mp (show S66 Tryz.prog E  h R = vcFun Tryz.prog H66 E Tryz.f66.results.toList _ [] h R from by kernel_rfl) hs)

def H67 : Hints := { r := fun _ => none, s := fun _ => none, l := fun _ => none, d := fun _ => none }
def S67 (P : Program) (E : List PanicEntry → Heap → Prop) (t0 t1 : Value) (h : Heap) (R : Value → Heap → Prop) : Prop :=
  CallsH P 97 #[t0] h (fun t7 h1 =>
  Reads P (nilS t0) h1 fun t10 =>
  Reads P (Instr.fieldAt 87 t10 1) h1 fun t11 =>
  pLoad P 29 t11 h1 fun t12 =>
  Runs P (builtin .append #[29, 9] 29 #[false, false] #[t12, t1]) h1 (fun t14 h2 =>
  Reads P (nilS t0) h2 fun t15 =>
  Reads P (Instr.fieldAt 87 t15 1) h2 fun t16 =>
  pStore P 29 t16 t14 h2 fun h3 =>
  Reads P (builtinS .len #[9] 3 #[t1]) h3 fun t18 =>
  R (.tuple #[t18, .nilIface]) h3) E) E
theorem C67 {E : List PanicEntry → Heap → Prop} {t0 t1 : Value} {h : Heap} {R : Value → Heap → Prop} (hs : S67 Tryz.prog E t0 t1 h R) : CallsH Tryz.prog 67 #[t0, t1] h R E :=
  calls_of_vc H67 Tryz.mixed Tryz.func67 rfl (by kernel_rfl) (by kernel_rfl) (Eq.mp (show S67 Tryz.prog E t0 t1 h R = vcFun Tryz.prog H67 E Tryz.f67.results.toList _ [t0, t1] h R from by kernel_rfl) hs)

def H68 : Hints := { r := fun _ => none, s := fun i => match i with | 13 => some [] | _ => none, l := fun i => match i with | 5 => some [4] | 9 => some [4] | _ => none, d := fun _ => none }
def S68 (P : Program) (E : List PanicEntry → Heap → Prop) (t0 : Value) (h : Heap) (R : Value → Heap → Prop) : Prop :=
  pNew 33 t0 h fun t1 h1 =>
  pLoad P 33 t1 h1 fun t6 =>
  Reads P (Instr.build 33 #[]) h1 fun t7 =>
  Reads P (binS .eql 33 false t6 t7) h1 fun t8 =>
  boolV t8 fun b1 => bcase b1 (
    R (str [91, 93]) h1) (
    pAlloc P 87 h1 fun t3 h2 =>
  Loop1 (.int .i64 0) h2 (fun C2 t4 h3 =>
    Reads P (binS .lss 3 true t4 (.int .i64 256)) h3 fun t10 =>
    boolV t10 fun b3 => bcase b3 (
      pLoad P 33 t1 h3 fun t13 =>
    Reads P (convert 3 5 t4) h3 fun t15 =>
    CallsH P 98 #[t13, t15] h3 (fun t16 h4 =>
    Reads P (Op.unary .not t16) h4 fun t17 =>
    boolV t17 fun b4 => bcase b4 (
      Reads P (binS .add 3 true t4 (.int .i64 1)) h4 fun t12 =>
    C2 t12 h4) (
      Loop1 t4 h4 (fun C5 t4_2 h5 =>
      Reads P (binS .lss 3 true t4_2 (.int .i64 255)) h5 fun t20 =>
      boolV t20 fun b6 => bcase b6 (
      pLoad P 33 t1 h5 fun t22 =>
      Reads P (binS .add 3 true t4_2 (.int .i64 1)) h5 fun t24 =>
      Reads P (convert 3 5 t24) h5 fun t25 =>
      CallsH P 98 #[t22, t25] h5 (fun t26 h6 =>
      boolV t26 fun b7 => bcase b7 (
        Reads P (binS .add 3 true t4_2 (.int .i64 1)) h6 fun t29 =>
      C5 t29 h6) (
        Join0 (fun J8 =>
      CallsH P 99 #[t3] h6 (fun t30 h7 =>
      Reads P (binS .gtr 3 true t30 (.int .i64 0)) h7 fun t31 =>
      boolV t31 fun b9 => bcase b9 (
        CallsH P 70 #[t3, (.int .u8 44)] h7 (fun t32 h8 =>
        J8 h8) E) (
        J8 h7)) E)
    (fun h9 =>
    Reads P (convert 3 5 t4) h9 fun t34 =>
    CallsH P 100 #[t34] h9 (fun t35 h10 =>
    CallsH P 67 #[t3, t35] h10 (fun t36 h11 =>
    Reads P (binS .gtr 3 false t4_2 t4) h11 fun t39 =>
    boolV t39 fun b10 => bcase b10 (
      Reads P (convert 3 5 t4_2) h11 fun t41 =>
      CallsH P 100 #[t41] h11 (fun t42 h12 =>
      Reads P (binS .add 9 true (str [45]) t42) h12 fun t43 =>
      CallsH P 67 #[t3, t43] h12 (fun t44 h13 =>
      Reads P (binS .add 3 true t4_2 (.int .i64 1)) h13 fun t12_2 =>
    C2 t12_2 h13) E) E) (
      Reads P (binS .add 3 true t4_2 (.int .i64 1)) h11 fun t12_3 =>
    C2 t12_3 h11)) E) E))) E) (
      Join0 (fun J11 =>
      CallsH P 99 #[t3] h5 (fun t30_2 h14 =>
      Reads P (binS .gtr 3 true t30_2 (.int .i64 0)) h14 fun t31_2 =>
      boolV t31_2 fun b12 => bcase b12 (
        CallsH P 70 #[t3, (.int .u8 44)] h14 (fun t32_2 h15 =>
        J11 h15) E) (
        J11 h14)) E)
    (fun h16 =>
    Reads P (convert 3 5 t4) h16 fun t34_2 =>
    CallsH P 100 #[t34_2] h16 (fun t35_2 h17 =>
    CallsH P 67 #[t3, t35_2] h17 (fun t36_2 h18 =>
    Reads P (binS .gtr 3 false t4_2 t4) h18 fun t39_2 =>
    boolV t39_2 fun b13 => bcase b13 (
      Reads P (convert 3 5 t4_2) h18 fun t41_2 =>
      CallsH P 100 #[t41_2] h18 (fun t42_2 h19 =>
      Reads P (binS .add 9 true (str [45]) t42_2) h19 fun t43_2 =>
      CallsH P 67 #[t3, t43_2] h19 (fun t44_2 h20 =>
      Reads P (binS .add 3 true t4_2 (.int .i64 1)) h20 fun t12_4 =>
    C2 t12_4 h20) E) E) (
      Reads P (binS .add 3 true t4_2 (.int .i64 1)) h18 fun t12_5 =>
    C2 t12_5 h18)) E) E))))) E) (
      CallsH P 45 #[t3] h3 (fun t45 h21 =>
  Reads P (binS .add 9 true (str [91]) t45) h21 fun t46 =>
  Reads P (binS .add 9 true t46 (str [93])) h21 fun t47 =>
  R t47 h21) E)))
theorem C68 {E : List PanicEntry → Heap → Prop} {t0 : Value} {h : Heap} {R : Value → Heap → Prop} (hs : S68 Tryz.prog E t0 h R) : CallsH Tryz.prog 68 #[t0] h R E :=
  calls_of_vc H68 Tryz.mixed Tryz.func68 rfl (by kernel_rfl) (by kernel_rfl) (Eq.mp (show S68 Tryz.prog E t0 h R = vcFun Tryz.prog H68 E Tryz.f68.results.toList _ [t0] h R from by kernel_rfl) hs)

def H69 : Hints := { r := fun _ => none, s := fun _ => none, l := fun _ => none, d := fun _ => none }
def S69 (P : Program) (E : List PanicEntry → Heap → Prop) (t0 : Value) (h : Heap) (R : Value → Heap → Prop) : Prop :=
  Reads P (binS .lss 2 true t0 (.int .i64 0)) h fun t4 =>
  boolV t4 fun b1 => bcase b1 (
    Reads P (convert 2 31 t0) h fun t6 =>
    Reads P (Op.unary .neg t6) h fun t7 =>
    CallsH P 101 #[t7, (.int .i64 10), (.bool false)] h (fun t8 h1 =>
    Reads P (binS .add 9 true (str [45]) t8) h1 fun t9 =>
    R t9 h1) E) (
    Reads P (convert 2 31 t0) h fun t11 =>
  CallsH P 101 #[t11, (.int .i64 10), (.bool false)] h (fun t12 h2 =>
  R t12 h2) E)
theorem C69 {E : List PanicEntry → Heap → Prop} {t0 : Value} {h : Heap} {R : Value → Heap → Prop} (hs : S69 Tryz.prog E t0 h R) : CallsH Tryz.prog 69 #[t0] h R E :=
  calls_of_vc H69 Tryz.mixed Tryz.func69 rfl (by kernel_rfl) (by kernel_rfl) (Eq.mp (show S69 Tryz.prog E t0 h R = vcFun Tryz.prog H69 E Tryz.f69.results.toList _ [t0] h R from by kernel_rfl) hs)

def H70 : Hints := { r := fun _ => none, s := fun _ => none, l := fun _ => none, d := fun _ => none }
def S70 (P : Program) (E : List PanicEntry → Heap → Prop) (t0 t1 : Value) (h : Heap) (R : Value → Heap → Prop) : Prop :=
  CallsH P 97 #[t0] h (fun t6 h1 =>
  Reads P (nilS t0) h1 fun t9 =>
  Reads P (Instr.fieldAt 87 t9 1) h1 fun t10 =>
  pLoad P 29 t10 h1 fun t11 =>
  Runs P (vS (Instr.buildSlice 29 1 #[(0, t1)])) h1 (fun t13 h2 =>
  Runs P (builtin .append #[29, 29] 29 #[false, false] #[t11, t13]) h2 (fun t14 h3 =>
  Reads P (nilS t0) h3 fun t15 =>
  Reads P (Instr.fieldAt 87 t15 1) h3 fun t16 =>
  pStore P 29 t16 t14 h3 fun h4 =>
  R .nilIface h4) E) E) E
theorem C70 {E : List PanicEntry → Heap → Prop} {t0 t1 : Value} {h : Heap} {R : Value → Heap → Prop} (hs : S70 Tryz.prog E t0 t1 h R) : CallsH Tryz.prog 70 #[t0, t1] h R E :=
  calls_of_vc H70 Tryz.mixed Tryz.func70 rfl (by kernel_rfl) (by kernel_rfl) (Eq.mp (show S70 Tryz.prog E t0 t1 h R = vcFun Tryz.prog H70 E Tryz.f70.results.toList _ [t0, t1] h R from by kernel_rfl) hs)

def H71 : Hints := { r := fun _ => none, s := fun _ => none, l := fun i => match i with | 3 => some [3, 5] | _ => none, d := fun _ => none }
def S71 (P : Program) (E : List PanicEntry → Heap → Prop) (t0 : Value) (h : Heap) (R : Value → Heap → Prop) : Prop :=
  pNew 33 t0 h fun t1 h1 =>
  Loop2 (.slice none 0 0) (.int .i64 0) h1 (fun C1 t3 t5 h2 =>
    Reads P (binS .lss 3 true t5 (.int .i64 256)) h2 fun t6 =>
    boolV t6 fun b2 => bcase b2 (
      pLoad P 33 t1 h2 fun t8 =>
    Reads P (convert 3 5 t5) h2 fun t10 =>
    CallsH P 102 #[t8, t10] h2 (fun t11 h3 =>
    boolV t11 fun b3 => bcase b3 (
      Reads P (convert 3 5 t5) h3 fun t14 =>
      Runs P (vS (Instr.buildSlice 29 1 #[(0, t14)])) h3 (fun t15 h4 =>
      Runs P (builtin .append #[29, 29] 29 #[false, false] #[t3, t15]) h4 (fun t16 h5 =>
      Reads P (binS .add 3 true t5 (.int .i64 1)) h5 fun t17 =>
    C1 t16 t17 h5) E) E) (
      Reads P (binS .add 3 true t5 (.int .i64 1)) h3 fun t17_2 =>
    C1 t3 t17_2 h3)) E) (
      R t3 h2))
theorem C71 {E : List PanicEntry → Heap → Prop} {t0 : Value} {h : Heap} {R : Value → Heap → Prop} (hs : S71 Tryz.prog E t0 h R) : CallsH Tryz.prog 71 #[t0] h R E :=
  calls_of_vc H71 Tryz.mixed Tryz.func71 rfl (by kernel_rfl) (by kernel_rfl) (Eq.mp (show S71 Tryz.prog E t0 h R = vcFun Tryz.prog H71 E Tryz.f71.results.toList _ [t0] h R from by kernel_rfl) hs)

def H72 : Hints := { r := fun _ => none, s := fun _ => none, l := fun i => match i with | 3 => some [3, 9] | _ => none, d := fun i => match i with | 5 => some (.cut 0 (.take 0 (.take 1 (.take 2 (.take 3 (.take 4 (.take 5 (.take 6 (.act 7 (.cut 0 (.act 8 (.cut 1 (.take 9 .done)) .stop)) .stop))))))))) | _ => none }
def S72 (P : Program) (E : List PanicEntry → Heap → Prop) (t0 : Value) (h : Heap) (R : Value → Heap → Prop) : Prop :=
  Runs P (vS (convert 9 29 t0)) h (fun t7 h1 =>
  Reads P (builtinS .len #[29] 3 #[t7]) h1 fun t8 =>
  Loop2 (.slice none 0 0) (.int .i64 0) h1 (fun C1 t3 t9 h2 =>
    Reads P (binS .lss 3 false t9 t8) h2 fun t10 =>
    boolV t10 fun b2 => bcase b2 (
      Reads P (Instr.indexAt 29 t7 t9) h2 fun t11 =>
    pLoad P 5 t11 h2 fun t12 =>
    ReadsS P (binS .shr 5 true t12 (.int .u64 4)) (fun _ => True) fun t15 =>
    ReadsS P (Instr.index 9 (str [48, 49, 50, 51, 52, 53, 54, 55, 56, 57, 97, 98, 99, 100, 101, 102]) t15) (fun _ => True) fun t16 =>
    ReadsS P (binS .and 5 true t12 (.int .u8 15)) (fun _ => True) fun t18 =>
    ReadsS P (Instr.index 9 (str [48, 49, 50, 51, 52, 53, 54, 55, 56, 57, 97, 98, 99, 100, 101, 102]) t18) (fun _ => True) fun t19 =>
    (Runs P (vS (Instr.buildSlice 29 2 #[(0, t16), (1, t19)])) h2 (fun t20 h3 =>
    True ∧ ((Runs P (builtin .append #[29, 29] 29 #[false, false] #[t3, t20]) h3 (fun t21 h4 =>
    True ∧ (Reads P (binS .add 3 true t9 (.int .i64 1)) h4 fun t22 =>
    C1 t21 t22 h4)) E) ∧ True)) E) ∧ True) (
      Reads P (convert 29 9 t3) h2 fun t24 =>
  R t24 h2))) E
theorem C72 {E : List PanicEntry → Heap → Prop} {t0 : Value} {h : Heap} {R : Value → Heap → Prop} (hs : S72 Tryz.prog E t0 h R) : CallsH Tryz.prog 72 #[t0] h R E :=
  calls_of_vc H72 Tryz.mixed Tryz.func72 rfl (by kernel_rfl) (by kernel_rfl) (Eq.mp (show S72 Tryz.prog E t0 h R = vcFun Tryz.prog H72 E Tryz.f72.results.toList _ [t0] h R from by kernel_rfl) hs)

def H78 : Hints := { r := fun _ => none, s := fun i => match i with | 3 => some [] | 7 => some [35] | 8 => some [] | _ => none, l := fun i => match i with | 2 => some [3] | _ => none, d := fun _ => none }
def S78 (P : Program) (E : List PanicEntry → Heap → Prop) (t0 : Value) (h : Heap) (R : Value → Heap → Prop) : Prop :=
  pAlloc P 36 h fun t2 h1 =>
  Loop1 (.slice none 0 0) h1 (fun C1 t3 h2 =>
    Join0 (fun J2 =>
      CallsH P 57 #[t0] h2 (fun t6 h3 =>
      Reads P (Op.unary .not t6) h3 fun t7 =>
      boolV t7 fun b3 => bcase b3 (
      CallsH P 81 #[t0, (str [124])] h3 (fun t10 h4 =>
      Reads P (Op.unary .not t10) h4 fun t11 =>
      boolV t11 fun b4 => bcase b4 (
      CallsH P 81 #[t0, (str [41])] h4 (fun t15 h5 =>
      Reads P (Op.unary .not t15) h5 fun t16 =>
      boolV t16 fun b5 => bcase b5 (
        J2 h5) (
        Reads P (builtinS .len #[34] 3 #[t3]) h5 fun t25 =>
  Reads P (binS .eql 3 true t25 (.int .i64 0)) h5 fun t26 =>
  boolV t26 fun b6 => bcase b6 (
    Join0 (fun J7 =>
      Join1 (fun J8 =>
        CallsH P 81 #[t0, (str [41])] h5 (fun t28 h6 =>
        boolV t28 fun b9 => bcase b9 (
        Reads P (nilS t0) h6 fun t31 =>
        Reads P (Instr.fieldAt 57 t31 3) h6 fun t32 =>
        pLoad P 3 t32 h6 fun t33 =>
        Reads P (binS .eql 3 true t33 (.int .i64 0)) h6 fun t34 =>
        J8 t34 h6) (
        J8 (.bool false) h6)) E)
      (fun t35 h7 =>
      boolV t35 fun b10 => bcase b10 (
        Reads P (nilS t0) h7 fun t38 =>
        Reads P (Instr.fieldAt 57 t38 1) h7 fun t39 =>
        pLoad P 3 t39 h7 fun t40 =>
        CallsH P 58 #[t0, (.int .i64 9), t40] h7 (fun t41 h8 =>
        J7 h8) E) (
        J7 h7)))
    (fun h9 =>
    Reads P (nilS t0) h9 fun t44 =>
    Reads P (Instr.fieldAt 57 t44 1) h9 fun t45 =>
    pLoad P 3 t45 h9 fun t46 =>
    CallsH P 58 #[t0, (.int .i64 3), t46] h9 (fun t47 h10 =>
    CallsH P 80 #[(.int .i64 4), t3] h10 (fun t49 h11 =>
  pStore P 36 t2 t49 h11 fun h12 =>
  pLoad P 36 t2 h12 fun r11 => R r11 h12) E) E)) (
    CallsH P 80 #[(.int .i64 4), t3] h5 (fun t49_2 h13 =>
  pStore P 36 t2 t49_2 h13 fun h14 =>
  pLoad P 36 t2 h14 fun r12 => R r12 h14) E))) E) (
      Reads P (builtinS .len #[34] 3 #[t3]) h4 fun t25_2 =>
  Reads P (binS .eql 3 true t25_2 (.int .i64 0)) h4 fun t26_2 =>
  boolV t26_2 fun b13 => bcase b13 (
    Join0 (fun J14 =>
      Join1 (fun J15 =>
        CallsH P 81 #[t0, (str [41])] h4 (fun t28_2 h15 =>
        boolV t28_2 fun b16 => bcase b16 (
        Reads P (nilS t0) h15 fun t31_2 =>
        Reads P (Instr.fieldAt 57 t31_2 3) h15 fun t32_2 =>
        pLoad P 3 t32_2 h15 fun t33_2 =>
        Reads P (binS .eql 3 true t33_2 (.int .i64 0)) h15 fun t34_2 =>
        J15 t34_2 h15) (
        J15 (.bool false) h15)) E)
      (fun t35_2 h16 =>
      boolV t35_2 fun b17 => bcase b17 (
        Reads P (nilS t0) h16 fun t38_2 =>
        Reads P (Instr.fieldAt 57 t38_2 1) h16 fun t39_2 =>
        pLoad P 3 t39_2 h16 fun t40_2 =>
        CallsH P 58 #[t0, (.int .i64 9), t40_2] h16 (fun t41_2 h17 =>
        J14 h17) E) (
        J14 h16)))
    (fun h18 =>
    Reads P (nilS t0) h18 fun t44_2 =>
    Reads P (Instr.fieldAt 57 t44_2 1) h18 fun t45_2 =>
    pLoad P 3 t45_2 h18 fun t46_2 =>
    CallsH P 58 #[t0, (.int .i64 3), t46_2] h18 (fun t47_2 h19 =>
    CallsH P 80 #[(.int .i64 4), t3] h19 (fun t49_3 h20 =>
  pStore P 36 t2 t49_3 h20 fun h21 =>
  pLoad P 36 t2 h21 fun r18 => R r18 h21) E) E)) (
    CallsH P 80 #[(.int .i64 4), t3] h4 (fun t49_4 h22 =>
  pStore P 36 t2 t49_4 h22 fun h23 =>
  pLoad P 36 t2 h23 fun r19 => R r19 h23) E))) E) (
      Reads P (builtinS .len #[34] 3 #[t3]) h3 fun t25_3 =>
  Reads P (binS .eql 3 true t25_3 (.int .i64 0)) h3 fun t26_3 =>
  boolV t26_3 fun b20 => bcase b20 (
    Join0 (fun J21 =>
      Join1 (fun J22 =>
        CallsH P 81 #[t0, (str [41])] h3 (fun t28_3 h24 =>
        boolV t28_3 fun b23 => bcase b23 (
        Reads P (nilS t0) h24 fun t31_3 =>
        Reads P (Instr.fieldAt 57 t31_3 3) h24 fun t32_3 =>
        pLoad P 3 t32_3 h24 fun t33_3 =>
        Reads P (binS .eql 3 true t33_3 (.int .i64 0)) h24 fun t34_3 =>
        J22 t34_3 h24) (
        J22 (.bool false) h24)) E)
      (fun t35_3 h25 =>
      boolV t35_3 fun b24 => bcase b24 (
        Reads P (nilS t0) h25 fun t38_3 =>
        Reads P (Instr.fieldAt 57 t38_3 1) h25 fun t39_3 =>
        pLoad P 3 t39_3 h25 fun t40_3 =>
        CallsH P 58 #[t0, (.int .i64 9), t40_3] h25 (fun t41_3 h26 =>
        J21 h26) E) (
        J21 h25)))
    (fun h27 =>
    Reads P (nilS t0) h27 fun t44_3 =>
    Reads P (Instr.fieldAt 57 t44_3 1) h27 fun t45_3 =>
    pLoad P 3 t45_3 h27 fun t46_3 =>
    CallsH P 58 #[t0, (.int .i64 3), t46_3] h27 (fun t47_3 h28 =>
    CallsH P 80 #[(.int .i64 4), t3] h28 (fun t49_5 h29 =>
  pStore P 36 t2 t49_5 h29 fun h30 =>
  pLoad P 36 t2 h30 fun r25 => R r25 h30) E) E)) (
    CallsH P 80 #[(.int .i64 4), t3] h3 (fun t49_6 h31 =>
  pStore P 36 t2 t49_6 h31 fun h32 =>
  pLoad P 36 t2 h32 fun r26 => R r26 h32) E))) E)
    (fun h33 =>
    CallsH P 104 #[t0] h33 (fun t19 h34 =>
    pAlloc P 36 h34 fun t4 h35 =>
    pStore P 36 t4 t19 h35 fun h36 =>
    pLoad P 36 t4 h36 fun t21 =>
    Runs P (vS (Instr.buildSlice 34 1 #[(0, t21)])) h36 (fun t22 h37 =>
    Runs P (builtin .append #[34, 34] 34 #[false, false] #[t3, t22]) h37 (fun t23 h38 =>
    C1 t23 h38) E) E) E))
theorem C78 {E : List PanicEntry → Heap → Prop} {t0 : Value} {h : Heap} {R : Value → Heap → Prop} (hs : S78 Tryz.prog E t0 h R) : CallsH Tryz.prog 78 #[t0] h R E :=
  calls_of_vc H78 Tryz.mixed Tryz.func78 rfl (by kernel_rfl) (by kernel_rfl) (Eq.mp (show S78 Tryz.prog E t0 h R = vcFun Tryz.prog H78 E Tryz.f78.results.toList _ [t0] h R from by kernel_rfl) hs)

def H79 : Hints := { r := fun _ => none, s := fun _ => none, l := fun _ => none, d := fun _ => none }
def S79 (P : Program) (E : List PanicEntry → Heap → Prop) (t0 t1 : Value) (h : Heap) (R : Value → Heap → Prop) : Prop :=
  CallsH P 81 #[t0, t1] h (fun t8 h1 =>
  boolV t8 fun b1 => bcase b1 (
    Reads P (nilS t0) h1 fun t11 =>
    Reads P (Instr.fieldAt 57 t11 1) h1 fun t12 =>
    pLoad P 3 t12 h1 fun t13 =>
    Reads P (builtinS .len #[9] 3 #[t1]) h1 fun t15 =>
    Reads P (binS .add 3 false t13 t15) h1 fun t16 =>
    Reads P (nilS t0) h1 fun t17 =>
    Reads P (Instr.fieldAt 57 t17 1) h1 fun t18 =>
    pStore P 3 t18 t16 h1 fun h2 =>
    R t8 h2) (
    R t8 h1)) E
theorem C79 {E : List PanicEntry → Heap → Prop} {t0 t1 : Value} {h : Heap} {R : Value → Heap → Prop} (hs : S79 Tryz.prog E t0 t1 h R) : CallsH Tryz.prog 79 #[t0, t1] h R E :=
  calls_of_vc H79 Tryz.mixed Tryz.func79 rfl (by kernel_rfl) (by kernel_rfl) (Eq.mp (show S79 Tryz.prog E t0 t1 h R = vcFun Tryz.prog H79 E Tryz.f79.results.toList _ [t0, t1] h R from by kernel_rfl) hs)

def H80 : Hints := { r := fun _ => none, s := fun _ => none, l := fun _ => none, d := fun _ => none }
def S80 (P : Program) (E : List PanicEntry → Heap → Prop) (t0 t1 : Value) (h : Heap) (R : Value → Heap → Prop) : Prop :=
  pAlloc P 36 h fun t4 h1 =>
  Reads P (builtinS .len #[34] 3 #[t1]) h1 fun t6 =>
  Reads P (binS .eql 3 true t6 (.int .i64 1)) h1 fun t7 =>
  boolV t7 fun b1 => bcase b1 (
    Reads P (Instr.indexAt 34 t1 (.int .i64 0)) h1 fun t9 =>
    pLoad P 36 t9 h1 fun t10 =>
    pStore P 36 t4 t10 h1 fun h2 =>
    pLoad P 36 t4 h2 fun r2 => R r2 h2) (
    Reads P (Instr.build 36 #[(0, t0), (5, t1)]) h1 fun t13 =>
  pStore P 36 t4 t13 h1 fun h3 =>
  pLoad P 36 t4 h3 fun r3 => R r3 h3)
theorem C80 {E : List PanicEntry → Heap → Prop} {t0 t1 : Value} {h : Heap} {R : Value → Heap → Prop} (hs : S80 Tryz.prog E t0 t1 h R) : CallsH Tryz.prog 80 #[t0, t1] h R E :=
  calls_of_vc H80 Tryz.mixed Tryz.func80 rfl (by kernel_rfl) (by kernel_rfl) (Eq.mp (show S80 Tryz.prog E t0 t1 h R = vcFun Tryz.prog H80 E Tryz.f80.results.toList _ [t0, t1] h R from by kernel_rfl) hs)

def H81 : Hints := { r := fun _ => none, s := fun _ => none, l := fun _ => none, d := fun i => match i with | 1 => some (.cut 1 (.take 0 (.take 1 (.take 2 (.take 3 (.take 4 (.take 5 (.take 6 (.take 7 (.take 8 (.take 9 (.take 10 (.take 11 (.take 12 (.take 13 (.take 14 (.take 15 (.take 16 (.take 17 (.take 18 (.take 19 (.take 20 (.take 21 (.take 22 (.take 23 (.take 24 (.take 25 (.take 26 (.take 27 (.take 28 (.take 29 (.take 30 (.take 31 (.take 32 (.take 33 (.take 34 .done)))))))))))))))))))))))))))))))))))) | _ => none }
def S81 (P : Program) (E : List PanicEntry → Heap → Prop) (t0 t1 : Value) (h : Heap) (R : Value → Heap → Prop) : Prop :=
  Reads P (nilS t0) h fun t6 =>
  Reads P (Instr.fieldAt 57 t6 1) h fun t7 =>
  pLoad P 3 t7 h fun t8 =>
  Reads P (builtinS .len #[9] 3 #[t1]) h fun t10 =>
  Reads P (binS .add 3 false t8 t10) h fun t11 =>
  Reads P (nilS t0) h fun t13 =>
  Reads P (Instr.fieldAt 57 t13 0) h fun t14 =>
  pLoad P 29 t14 h fun t15 =>
  Reads P (builtinS .len #[29] 3 #[t15]) h fun t16 =>
  Reads P (binS .leq 3 false t11 t16) h fun t17 =>
  boolV t17 fun b1 => bcase b1 (
  Reads P (nilS t0) h fun t20 =>
  Reads P (Instr.fieldAt 57 t20 0) h fun t21 =>
  pLoad P 29 t21 h fun t22 =>
  Reads P (nilS t0) h fun t24 =>
  Reads P (Instr.fieldAt 57 t24 1) h fun t25 =>
  pLoad P 3 t25 h fun t26 =>
  Reads P (nilS t0) h fun t28 =>
  Reads P (Instr.fieldAt 57 t28 1) h fun t29 =>
  pLoad P 3 t29 h fun t30 =>
  Reads P (builtinS .len #[9] 3 #[t1]) h fun t32 =>
  Reads P (binS .add 3 false t30 t32) h fun t33 =>
  Reads P (Instr.sliceAt 29 t22 (some t26) (some t33) none) h fun t34 =>
  Reads P (convert 29 9 t34) h fun t35 =>
  Reads P (binS .eql 9 false t35 t1) h fun t37 =>
  R t37 h) (
  R (.bool false) h)
theorem C81 {E : List PanicEntry → Heap → Prop} {t0 t1 : Value} {h : Heap} {R : Value → Heap → Prop} (hs : S81 Tryz.prog E t0 t1 h R) : CallsH Tryz.prog 81 #[t0, t1] h R E :=
  calls_of_vc H81 Tryz.mixed Tryz.func81 rfl (by kernel_rfl) (by kernel_rfl) (Eq.mp (show S81 Tryz.prog E t0 t1 h R = vcFun Tryz.prog H81 E Tryz.f81.results.toList _ [t0, t1] h R from by kernel_rfl) hs)

def H82 : Hints := { r := fun _ => none, s := fun i => match i with | 6 => some [16] | 13 => some [] | _ => none, l := fun _ => none, d := fun _ => none }
def S82 (P : Program) (E : List PanicEntry → Heap → Prop) (t0 : Value) (h : Heap) (R : Value → Heap → Prop) : Prop :=
  pAlloc P 36 h fun t2 h1 =>
  Reads P (nilS t0) h1 fun t5 =>
  Reads P (Instr.fieldAt 57 t5 1) h1 fun t6 =>
  pLoad P 3 t6 h1 fun t7 =>
  Join0 (fun J1 =>
    CallsH P 79 #[t0, (str [92, 40])] h1 (fun t10 h2 =>
    boolV t10 fun b2 => bcase b2 (
      Reads P (Instr.makeFunc (.func 56) #[t0] #[]) h2 fun t14 =>
      CallsH P 105 #[t0, t7, (str [92, 41]), t14] h2 (fun t15 h3 =>
      pStore P 36 t2 t15 h3 fun h4 =>
      pLoad P 36 t2 h4 fun r3 => R r3 h4) E) (
      Join1 (fun J4 =>
        CallsH P 81 #[t0, (str [92, 123])] h2 (fun t18 h5 =>
        boolV t18 fun b5 => bcase b5 (
          J4 (.bool true) h5) (
          CallsH P 81 #[t0, (str [92, 125])] h5 (fun t20 h6 =>
          J4 t20 h6) E)) E)
      (fun t16 h7 =>
      boolV t16 fun b6 => bcase b6 (
        Reads P (nilS t0) h7 fun t23 =>
        Reads P (Instr.fieldAt 57 t23 1) h7 fun t24 =>
        pLoad P 3 t24 h7 fun t25 =>
        CallsH P 58 #[t0, (.int .i64 3), t25] h7 (fun t26 h8 =>
        J1 h8) E) (
        CallsH P 81 #[t0, (str [92])] h7 (fun t29 h9 =>
        boolV t29 fun b7 => bcase b7 (
          CallsH P 106 #[t0, (str [46, 91, 93, 42, 94, 36, 47, 92])] h9 (fun t31 h10 =>
          pStore P 36 t2 t31 h10 fun h11 =>
          pLoad P 36 t2 h11 fun r8 => R r8 h11) E) (
          CallsH P 79 #[t0, (str [46])] h9 (fun t34 h12 =>
          boolV t34 fun b9 => bcase b9 (
            CallsH P 66 #[] h12 (fun t35 h13 =>
            Reads P (Instr.build 36 #[(0, (.int .i64 1)), (1, t35)]) h13 fun t36 =>
            pStore P 36 t2 t36 h13 fun h14 =>
            pLoad P 36 t2 h14 fun r10 => R r10 h14) E) (
            CallsH P 79 #[t0, (str [91])] h12 (fun t39 h15 =>
            boolV t39 fun b11 => bcase b11 (
              CallsH P 107 #[t0] h15 (fun t41 h16 =>
              pStore P 36 t2 t41 h16 fun h17 =>
              pLoad P 36 t2 h17 fun r12 => R r12 h17) E) (
              J1 h15)) E)) E)) E)))) E)
  (fun h18 =>
  Reads P (nilS t0) h18 fun t43 =>
  Reads P (Instr.fieldAt 57 t43 1) h18 fun t44 =>
  pLoad P 3 t44 h18 fun t45 =>
  Reads P (binS .add 3 true t45 (.int .i64 1)) h18 fun t46 =>
  Reads P (nilS t0) h18 fun t47 =>
  Reads P (Instr.fieldAt 57 t47 1) h18 fun t48 =>
  pStore P 3 t48 t46 h18 fun h19 =>
  Reads P (nilS t0) h19 fun t50 =>
  Reads P (Instr.fieldAt 57 t50 0) h19 fun t51 =>
  pLoad P 29 t51 h19 fun t52 =>
  Reads P (Instr.indexAt 29 t52 t7) h19 fun t54 =>
  pLoad P 5 t54 h19 fun t55 =>
  CallsH P 108 #[t55] h19 (fun t56 h20 =>
  pStore P 36 t2 t56 h20 fun h21 =>
  pLoad P 36 t2 h21 fun r13 => R r13 h21) E)
theorem C82 {E : List PanicEntry → Heap → Prop} {t0 : Value} {h : Heap} {R : Value → Heap → Prop} (hs : S82 Tryz.prog E t0 h R) : CallsH Tryz.prog 82 #[t0] h R E :=
  calls_of_vc H82 Tryz.mixed Tryz.func82 rfl (by kernel_rfl) (by kernel_rfl) (Eq.mp (show S82 Tryz.prog E t0 h R = vcFun Tryz.prog H82 E Tryz.f82.results.toList _ [t0] h R from by kernel_rfl) hs)

def H83 : Hints := { r := fun _ => none, s := fun _ => none, l := fun _ => none, d := fun _ => none }
def S83 (P : Program) (E : List PanicEntry → Heap → Prop) (t0 t1 t2 : Value) (h : Heap) (R : Value → Heap → Prop) : Prop :=
  pNew 36 t0 h fun t3 h1 =>
  pAlloc P 36 h1 fun t6 h2 =>
  pLoad P 36 t3 h2 fun t9 =>
  Runs P (vS (Instr.buildSlice 34 1 #[(0, t9)])) h2 (fun t10 h3 =>
  Reads P (Instr.build 36 #[(0, (.int .i64 6)), (2, t1), (3, t2), (5, t10)]) h3 fun t11 =>
  pStore P 36 t6 t11 h3 fun h4 =>
  pLoad P 36 t6 h4 fun r1 => R r1 h4) E
theorem C83 {E : List PanicEntry → Heap → Prop} {t0 t1 t2 : Value} {h : Heap} {R : Value → Heap → Prop} (hs : S83 Tryz.prog E t0 t1 t2 h R) : CallsH Tryz.prog 83 #[t0, t1, t2] h R E :=
  calls_of_vc H83 Tryz.mixed Tryz.func83 rfl (by kernel_rfl) (by kernel_rfl) (Eq.mp (show S83 Tryz.prog E t0 t1 t2 h R = vcFun Tryz.prog H83 E Tryz.f83.results.toList _ [t0, t1, t2] h R from by kernel_rfl) hs)

def H84 : Hints := { r := fun _ => none, s := fun i => match i with | 4 => some [19] | 9 => some [10] | 11 => some [] | _ => none, l := fun _ => none, d := fun _ => none }
def S84 (P : Program) (E : List PanicEntry → Heap → Prop) (t0 t1 t2 t3 : Value) (h : Heap) (R : Value → Heap → Prop) : Prop :=
  pNew 36 t1 h fun t5 h1 =>
  pAlloc P 36 h1 fun t8 h2 =>
  CallsH P 109 #[t0] h2 (fun t12 h3 =>
  Join1 (fun J1 =>
    Join1 (fun J2 =>
      Reads P (binS .geq 3 true t12 (.int .i64 0)) h3 fun t15 =>
      boolV t15 fun b3 => bcase b3 (
      CallsH P 79 #[t0, (str [44])] h3 (fun t18 h4 =>
      J2 t18 h4) E) (
      J2 (.bool false) h3))
    (fun t19 h5 =>
    boolV t19 fun b4 => bcase b4 (
      CallsH P 81 #[t0, t3] h5 (fun t22 h6 =>
      Reads P (Op.unary .not t22) h6 fun t23 =>
      boolV t23 fun b5 => bcase b5 (
        CallsH P 109 #[t0] h6 (fun t25 h7 =>
        Reads P (binS .lss 3 true t25 (.int .i64 0)) h7 fun t27 =>
        boolV t27 fun b6 => bcase b6 (
          CallsH P 58 #[t0, (.int .i64 7), t2] h7 (fun t30 h8 =>
          J1 t25 h8) E) (
          J1 t25 h7)) E) (
        J1 (.int .i64 (-1)) h6)) E) (
      J1 t12 h5)))
  (fun t10 h9 =>
  Join0 (fun J7 =>
    Reads P (binS .lss 3 true t12 (.int .i64 0)) h9 fun t32 =>
    boolV t32 fun b8 => bcase b8 (
    (undef = undef ∧ ((undef = undef ∧ ((undef = undef ∧ (CallsH P 58 #[t0, (.int .i64 7), t2] h9 (fun t58 h10 =>
    J7 h10) E))))))) (
    CallsH P 79 #[t0, t3] h9 (fun t36 h11 =>
    Reads P (Op.unary .not t36) h11 fun t37 =>
    boolV t37 fun b9 => bcase b9 (
    (undef = undef ∧ ((undef = undef ∧ ((undef = undef ∧ (CallsH P 58 #[t0, (.int .i64 7), t2] h11 (fun t58_2 h12 =>
    J7 h12) E))))))) (
    Reads P (binS .gtr 3 true t12 (.int .i64 255)) h11 fun t41 =>
    boolV t41 fun b10 => bcase b10 (
    (undef = undef ∧ ((undef = undef ∧ ((undef = undef ∧ (CallsH P 58 #[t0, (.int .i64 7), t2] h11 (fun t58_3 h13 =>
    J7 h13) E))))))) (
    Reads P (binS .gtr 3 true t10 (.int .i64 255)) h11 fun t45 =>
    boolV t45 fun b11 => bcase b11 (
    (undef = undef ∧ ((undef = undef ∧ ((undef = undef ∧ (CallsH P 58 #[t0, (.int .i64 7), t2] h11 (fun t58_4 h14 =>
    J7 h14) E))))))) (
    Reads P (binS .geq 3 true t10 (.int .i64 0)) h11 fun t49 =>
    boolV t49 fun b12 => bcase b12 (
    Reads P (binS .lss 3 false t10 t12) h11 fun t53 =>
    boolV t53 fun b13 => bcase b13 (
      CallsH P 58 #[t0, (.int .i64 7), t2] h11 (fun t58_5 h15 =>
      J7 h15) E) (
      J7 h11)) (
    J7 h11))))) E))
  (fun h16 =>
  pLoad P 36 t5 h16 fun t59 =>
  CallsH P 83 #[t59, t12, t10] h16 (fun t62 h17 =>
  pStore P 36 t8 t62 h17 fun h18 =>
  pLoad P 36 t8 h18 fun r14 => R r14 h18) E))) E
theorem C84 {E : List PanicEntry → Heap → Prop} {t0 t1 t2 t3 : Value} {h : Heap} {R : Value → Heap → Prop} (hs : S84 Tryz.prog E t0 t1 t2 t3 h R) : CallsH Tryz.prog 84 #[t0, t1, t2, t3] h R E :=
  calls_of_vc H84 Tryz.mixed Tryz.func84 rfl (by kernel_rfl) (by kernel_rfl) (Eq.mp (show S84 Tryz.prog E t0 t1 t2 t3 h R = vcFun Tryz.prog H84 E Tryz.f84.results.toList _ [t0, t1, t2, t3] h R from by kernel_rfl) hs)

def H85 : Hints := { r := fun _ => none, s := fun _ => none, l := fun _ => none, d := fun _ => none }
def S85 (P : Program) (E : List PanicEntry → Heap → Prop) (t0 t1 : Value) (h : Heap) (R : Value → Heap → Prop) : Prop :=
  Reads P (nilS t0) h fun t6 =>
  Reads P (Instr.fieldAt 71 t6 2) h fun t7 =>
  pLoad P 4 t7 h fun t8 =>
  boolV t8 fun b1 => bcase b1 (
    R t1 h) (
    Reads P (binS .add 9 true (str [92]) t1) h fun t11 =>
  R t11 h)
theorem C85 {E : List PanicEntry → Heap → Prop} {t0 t1 : Value} {h : Heap} {R : Value → Heap → Prop} (hs : S85 Tryz.prog E t0 t1 h R) : CallsH Tryz.prog 85 #[t0, t1] h R E :=
  calls_of_vc H85 Tryz.mixed Tryz.func85 rfl (by kernel_rfl) (by kernel_rfl) (Eq.mp (show S85 Tryz.prog E t0 t1 h R = vcFun Tryz.prog H85 E Tryz.f85.results.toList _ [t0, t1] h R from by kernel_rfl) hs)

def H86 : Hints := { r := fun _ => none, s := fun _ => none, l := fun _ => none, d := fun _ => none }
def S86 (P : Program) (E : List PanicEntry → Heap → Prop) (t0 t1 t2 : Value) (h : Heap) (R : Value → Heap → Prop) : Prop :=
  pNew 36 t2 h fun t5 h1 =>
  pAlloc P 36 h1 fun t6 h2 =>
  pLoad P 36 t5 h2 fun t9 =>
  Runs P (vS (Instr.buildSlice 34 1 #[(0, t9)])) h2 (fun t10 h3 =>
  Reads P (Instr.build 36 #[(0, (.int .i64 6)), (2, t0), (3, t1), (5, t10)]) h3 fun t11 =>
  pStore P 36 t6 t11 h3 fun h4 =>
  pLoad P 36 t6 h4 fun r1 => R r1 h4) E
theorem C86 {E : List PanicEntry → Heap → Prop} {t0 t1 t2 : Value} {h : Heap} {R : Value → Heap → Prop} (hs : S86 Tryz.prog E t0 t1 t2 h R) : CallsH Tryz.prog 86 #[t0, t1, t2] h R E :=
  calls_of_vc H86 Tryz.mixed Tryz.func86 rfl (by kernel_rfl) (by kernel_rfl) (Eq.mp (show S86 Tryz.prog E t0 t1 t2 h R = vcFun Tryz.prog H86 E Tryz.f86.results.toList _ [t0, t1, t2] h R from by kernel_rfl) hs)

def H87 : Hints := { r := fun _ => none, s := fun i => match i with | 4 => some [18] | 8 => some [6, 7] | 10 => some [] | _ => none, l := fun _ => none, d := fun i => match i with | 10 => some (.cut 2 (.take 0 (.take 1 (.take 2 (.take 3 (.take 4 (.act 5 (.take 6 (.cut 1 (.take 7 (.take 8 (.take 9 (.cut 0 (.act 10 .done .stop))))))) .stop))))))) | _ => none }
def S87 (P : Program) (E : List PanicEntry → Heap → Prop) (t0 : Value) (h : Heap) (R : Value → Heap → Prop) : Prop :=
  CallsH P 110 #[t0] h (fun t10 h1 =>
  Reads P (Instr.extract t10 0) h1 fun t11 =>
  Reads P (Instr.extract t10 1) h1 fun t12 =>
  Join2 (fun J1 =>
    Join1 (fun J2 =>
      boolV t12 fun b3 => bcase b3 (
      CallsH P 36 #[t0, (str [44])] h1 (fun t17 h2 =>
      J2 t17 h2) E) (
      J2 (.bool false) h1))
    (fun t18 h3 =>
    boolV t18 fun b4 => bcase b4 (
      Reads P (nilS t0) h3 fun t20 =>
      Reads P (Instr.fieldAt 71 t20 1) h3 fun t21 =>
      pLoad P 3 t21 h3 fun t22 =>
      Reads P (binS .add 3 true t22 (.int .i64 1)) h3 fun t23 =>
      Reads P (nilS t0) h3 fun t24 =>
      Reads P (Instr.fieldAt 71 t24 1) h3 fun t25 =>
      pStore P 3 t25 t23 h3 fun h4 =>
      CallsH P 85 #[t0, (str [125])] h4 (fun t28 h5 =>
      CallsH P 36 #[t0, t28] h5 (fun t29 h6 =>
      Reads P (Op.unary .not t29) h6 fun t30 =>
      boolV t30 fun b5 => bcase b5 (
        CallsH P 110 #[t0] h6 (fun t33 h7 =>
        Reads P (Instr.extract t33 0) h7 fun t34 =>
        Reads P (Instr.extract t33 1) h7 fun t35 =>
        J1 t35 t34 h7) E) (
        J1 t12 (.int .i64 (-1)) h6)) E) E) (
      J1 t12 t11 h3)))
  (fun t6 t7 h8 =>
  Join0 (fun J6 =>
    Reads P (Op.unary .not t6) h8 fun t37 =>
    boolV t37 fun b7 => bcase b7 (
    (undef = undef ∧ ((undef = undef ∧ ((undef = undef ∧ (R (.tuple #[(.int .i64 0), (.int .i64 0), (.bool false)]) h8))))))) (
    CallsH P 85 #[t0, (str [125])] h8 (fun t41 h9 =>
    CallsH P 36 #[t0, t41] h9 (fun t42 h10 =>
    Reads P (Op.unary .not t42) h10 fun t43 =>
    boolV t43 fun b8 => bcase b8 (
    (undef = undef ∧ ((undef = undef ∧ ((undef = undef ∧ (R (.tuple #[(.int .i64 0), (.int .i64 0), (.bool false)]) h10))))))) (
    Reads P (binS .geq 3 true t7 (.int .i64 0)) h10 fun t47 =>
    boolV t47 fun b9 => bcase b9 (
    Reads P (binS .lss 3 false t7 t11) h10 fun t51 =>
    boolV t51 fun b10 => bcase b10 (
      R (.tuple #[(.int .i64 0), (.int .i64 0), (.bool false)]) h10) (
      J6 h10)) (
    J6 h10))) E) E))
  (fun h11 =>
  Stable h11 fun S11 =>
  ReadsS P (nilS t0) S11 fun t55 =>
  ReadsS P (Instr.fieldAt 71 t55 1) S11 fun t56 =>
  pLoadS P 3 t56 S11 fun t57 =>
  (CallsH P 85 #[t0, (str [125])] h11 (fun t59 h12 =>
  S11 h12 ∧ (ReadsS P (builtinS .len #[9] 3 #[t59]) S11 fun t60 =>
  Reads P (binS .add 3 false t57 t60) h12 fun t61 =>
  Reads P (nilS t0) h12 fun t62 =>
  Reads P (Instr.fieldAt 71 t62 1) h12 fun t63 =>
  (pStore P 3 t63 t61 h12 fun h13 =>
  True ∧ (R (.tuple #[t11, t7, (.bool true)]) h13)) ∧ True)) E) ∧ True))) E
theorem C87 {E : List PanicEntry → Heap → Prop} {t0 : Value} {h : Heap} {R : Value → Heap → Prop} (hs : S87 Tryz.prog E t0 h R) : CallsH Tryz.prog 87 #[t0] h R E :=
  calls_of_vc H87 Tryz.mixed Tryz.func87 rfl (by kernel_rfl) (by kernel_rfl) (Eq.mp (show S87 Tryz.prog E t0 h R = vcFun Tryz.prog H87 E Tryz.f87.results.toList _ [t0] h R from by kernel_rfl) hs)

def H88 : Hints := { r := fun _ => none, s := fun _ => none, l := fun _ => none, d := fun _ => none }
def S88 (P : Program) (E : List PanicEntry → Heap → Prop) (h : Heap) (R : Value → Heap → Prop) : Prop :=
  pAlloc P 36 h fun t0 h1 =>
  Reads P (Instr.build 33 #[]) h1 fun t1 =>
  CallsH P 46 #[t1] h1 (fun t2 h2 =>
  Reads P (Instr.build 36 #[(0, (.int .i64 1)), (1, t2)]) h2 fun t3 =>
  pStore P 36 t0 t3 h2 fun h3 =>
  pLoad P 36 t0 h3 fun r1 => R r1 h3) E
theorem C88 {E : List PanicEntry → Heap → Prop} {h : Heap} {R : Value → Heap → Prop} (hs : S88 Tryz.prog E  h R) : CallsH Tryz.prog 88 #[] h R E :=
  calls_of_vc H88 Tryz.mixed Tryz.func88 rfl (by kernel_rfl) (by kernel_rfl) (Eq.mp (show S88 Tryz.prog E  h R = vcFun Tryz.prog H88 E Tryz.f88.results.toList _ [] h R from by kernel_rfl) hs)

def H89 : Hints := { r := fun _ => none, s := fun i => match i with | 10 => some [] | _ => none, l := fun _ => none, d := fun i => match i with | 5 => some (.cut 2 (.take 0 (.take 1 (.take 2 (.take 3 (.take 4 (.act 5 (.take 6 (.cut 1 (.take 7 (.take 8 (.take 9 (.cut 0 (.act 10 .done .stop))))))) .stop))))))) | 14 => some (.cut 2 (.take 0 (.take 1 (.take 2 (.take 3 (.take 4 (.act 5 (.take 6 (.cut 1 (.take 7 (.take 8 (.take 9 (.cut 0 (.act 10 .done .stop))))))) .stop))))))) | _ => none }
def S89 (P : Program) (E : List PanicEntry → Heap → Prop) (t0 : Value) (h : Heap) (R : Value → Heap → Prop) : Prop :=
  pAlloc P 36 h fun t2 h1 =>
  Reads P (nilS t0) h1 fun t6 =>
  Reads P (Instr.fieldAt 71 t6 3) h1 fun t7 =>
  pLoad P 3 t7 h1 fun t8 =>
  Reads P (binS .eql 3 true t8 (.int .i64 9)) h1 fun t9 =>
  boolV t9 fun b1 => bcase b1 (
    Reads P (nilS t0) h1 fun t12 =>
    Reads P (Instr.fieldAt 71 t12 1) h1 fun t13 =>
    pLoad P 3 t13 h1 fun t14 =>
    CallsH P 37 #[t0, (.int .i64 5), t14] h1 (fun t15 h2 =>
    pStore P 36 t2 t15 h2 fun h3 =>
    pLoad P 36 t2 h3 fun r2 => R r2 h3) E) (
    Reads P (nilS t0) h1 fun t17 =>
  Reads P (Instr.fieldAt 71 t17 3) h1 fun t18 =>
  pLoad P 3 t18 h1 fun t19 =>
  Reads P (binS .add 3 true t19 (.int .i64 1)) h1 fun t20 =>
  Reads P (nilS t0) h1 fun t21 =>
  Reads P (Instr.fieldAt 71 t21 3) h1 fun t22 =>
  pStore P 3 t22 t20 h1 fun h4 =>
  Reads P (nilS t0) h4 fun t24 =>
  Reads P (Instr.fieldAt 71 t24 3) h4 fun t25 =>
  pLoad P 3 t25 h4 fun t26 =>
  Stable h4 fun S3 =>
  ReadsS P (nilS t0) S3 fun t28 =>
  ReadsS P (Instr.fieldAt 71 t28 1) S3 fun t29 =>
  pLoadS P 3 t29 S3 fun t30 =>
  (CallsH P 85 #[t0, (str [40])] h4 (fun t32 h5 =>
  S3 h5 ∧ (ReadsS P (builtinS .len #[9] 3 #[t32]) S3 fun t33 =>
  Reads P (binS .add 3 false t30 t33) h5 fun t34 =>
  Reads P (nilS t0) h5 fun t35 =>
  Reads P (Instr.fieldAt 71 t35 1) h5 fun t36 =>
  (pStore P 3 t36 t34 h5 fun h6 =>
  True ∧ (pAlloc P 36 h6 fun t4 h7 =>
  Join0 (fun J4 =>
    Reads P (nilS t0) h7 fun t38 =>
    Reads P (Instr.fieldAt 71 t38 2) h7 fun t39 =>
    pLoad P 4 t39 h7 fun t40 =>
    boolV t40 fun b5 => bcase b5 (
      CallsH P 38 #[t0] h7 (fun t42 h8 =>
      pStore P 36 t4 t42 h8 fun h9 =>
      J4 h9) E) (
      CallsH P 39 #[t0] h7 (fun t44 h10 =>
      pStore P 36 t4 t44 h10 fun h11 =>
      J4 h11) E))
  (fun h12 =>
  CallsH P 40 #[t0] h12 (fun t46 h13 =>
  boolV t46 fun b6 => bcase b6 (
    pLoad P 36 t4 h13 fun t47 =>
    pStore P 36 t2 t47 h13 fun h14 =>
    pLoad P 36 t2 h14 fun r7 => R r7 h14) (
    CallsH P 41 #[t0] h13 (fun t49 h15 =>
  boolV t49 fun b8 => bcase b8 (
    Reads P (nilS t0) h15 fun t52 =>
    Reads P (Instr.fieldAt 71 t52 1) h15 fun t53 =>
    pLoad P 3 t53 h15 fun t54 =>
    CallsH P 37 #[t0, (.int .i64 9), t54] h15 (fun t55 h16 =>
    pStore P 36 t2 t55 h16 fun h17 =>
    pLoad P 36 t2 h17 fun r9 => R r9 h17) E) (
    Stable h15 fun S10 =>
  ReadsS P (nilS t0) S10 fun t57 =>
  ReadsS P (Instr.fieldAt 71 t57 1) S10 fun t58 =>
  pLoadS P 3 t58 S10 fun t59 =>
  (CallsH P 85 #[t0, (str [41])] h15 (fun t61 h18 =>
  S10 h18 ∧ (ReadsS P (builtinS .len #[9] 3 #[t61]) S10 fun t62 =>
  Reads P (binS .add 3 false t59 t62) h18 fun t63 =>
  Reads P (nilS t0) h18 fun t64 =>
  Reads P (Instr.fieldAt 71 t64 1) h18 fun t65 =>
  (pStore P 3 t65 t63 h18 fun h19 =>
  True ∧ (pLoad P 36 t4 h19 fun t67 =>
  Runs P (vS (Instr.buildSlice 34 1 #[(0, t67)])) h19 (fun t68 h20 =>
  Reads P (Instr.build 36 #[(0, (.int .i64 7)), (4, t26), (5, t68)]) h20 fun t69 =>
  pStore P 36 t2 t69 h20 fun h21 =>
  pLoad P 36 t2 h21 fun r11 => R r11 h21) E)) ∧ True)) E) ∧ True)) E)) E))) ∧ True)) E) ∧ True)
theorem C89 {E : List PanicEntry → Heap → Prop} {t0 : Value} {h : Heap} {R : Value → Heap → Prop} (hs : S89 Tryz.prog E t0 h R) : CallsH Tryz.prog 89 #[t0] h R E :=
  calls_of_vc H89 Tryz.mixed Tryz.func89 rfl (by kernel_rfl) (by kernel_rfl) (Eq.mp (show S89 Tryz.prog E t0 h R = vcFun Tryz.prog H89 E Tryz.f89.results.toList _ [t0] h R from by kernel_rfl) hs)

def H90 : Hints := { r := fun _ => none, s := fun _ => none, l := fun i => match i with | 2 => some [8] | _ => none, d := fun _ => none }
def S90 (P : Program) (E : List PanicEntry → Heap → Prop) (t0 t1 : Value) (h : Heap) (R : Value → Heap → Prop) : Prop :=
  Reads P (builtinS .len #[9] 3 #[t1]) h fun t7 =>
  Loop1 (.int .i64 0) h (fun C1 t8 h1 =>
    Reads P (binS .lss 3 false t8 t7) h1 fun t9 =>
    boolV t9 fun b2 => bcase b2 (
      Reads P (Instr.index 9 t1 t8) h1 fun t13 =>
    Reads P (binS .eql 5 false t13 t0) h1 fun t15 =>
    boolV t15 fun b3 => bcase b3 (
      R (.bool true) h1) (
      Reads P (binS .add 3 true t8 (.int .i64 1)) h1 fun t16 =>
    C1 t16 h1)) (
      R (.bool false) h1))
theorem C90 {E : List PanicEntry → Heap → Prop} {t0 t1 : Value} {h : Heap} {R : Value → Heap → Prop} (hs : S90 Tryz.prog E t0 t1 h R) : CallsH Tryz.prog 90 #[t0, t1] h R E :=
  calls_of_vc H90 Tryz.mixed Tryz.func90 rfl (by kernel_rfl) (by kernel_rfl) (Eq.mp (show S90 Tryz.prog E t0 t1 h R = vcFun Tryz.prog H90 E Tryz.f90.results.toList _ [t0, t1] h R from by kernel_rfl) hs)

def H91 : Hints := { r := fun _ => none, s := fun i => match i with | 7 => some [47] | 9 => some [] | _ => none, l := fun _ => none, d := fun i => match i with | 1 => some (.cut 1 (.take 0 (.take 1 (.take 2 (.take 3 (.take 4 (.take 5 (.take 6 (.take 7 (.take 8 (.take 9 (.take 10 .done)))))))))))) | 2 => some (.cut 1 (.take 0 (.take 1 (.take 2 (.take 3 (.take 4 (.take 5 (.take 6 (.take 7 (.take 8 (.take 9 (.take 10 (.take 11 .done))))))))))))) | _ => none }
def S91 (P : Program) (E : List PanicEntry → Heap → Prop) (t0 : Value) (h : Heap) (R : Value → Heap → Prop) : Prop :=
  pAlloc P 36 h fun t2 h1 =>
  Join0 (fun J1 =>
    Reads P (nilS t0) h1 fun t5 =>
    Reads P (Instr.fieldAt 71 t5 1) h1 fun t6 =>
    pLoad P 3 t6 h1 fun t7 =>
    Reads P (binS .add 3 true t7 (.int .i64 1)) h1 fun t8 =>
    Reads P (nilS t0) h1 fun t10 =>
    Reads P (Instr.fieldAt 71 t10 0) h1 fun t11 =>
    pLoad P 29 t11 h1 fun t12 =>
    Reads P (builtinS .len #[29] 3 #[t12]) h1 fun t13 =>
    Reads P (binS .lss 3 false t8 t13) h1 fun t14 =>
    boolV t14 fun b2 => bcase b2 (
      Reads P (nilS t0) h1 fun t16 =>
      Reads P (Instr.fieldAt 71 t16 0) h1 fun t17 =>
      pLoad P 29 t17 h1 fun t18 =>
      Reads P (nilS t0) h1 fun t20 =>
      Reads P (Instr.fieldAt 71 t20 1) h1 fun t21 =>
      pLoad P 3 t21 h1 fun t22 =>
      Reads P (binS .add 3 true t22 (.int .i64 1)) h1 fun t23 =>
      Reads P (Instr.indexAt 29 t18 t23) h1 fun t24 =>
      pLoad P 5 t24 h1 fun t25 =>
      Reads P (binS .eql 5 true t25 (.int .u8 110)) h1 fun t27 =>
      boolV t27 fun b3 => bcase b3 (
        Reads P (nilS t0) h1 fun t29 =>
        Reads P (Instr.fieldAt 71 t29 1) h1 fun t30 =>
        pLoad P 3 t30 h1 fun t31 =>
        Reads P (binS .add 3 true t31 (.int .i64 2)) h1 fun t32 =>
        Reads P (nilS t0) h1 fun t33 =>
        Reads P (Instr.fieldAt 71 t33 1) h1 fun t34 =>
        pStore P 3 t34 t32 h1 fun h2 =>
        CallsH P 15 #[(.int .u8 10)] h2 (fun t35 h3 =>
        pStore P 36 t2 t35 h3 fun h4 =>
        pLoad P 36 t2 h4 fun r4 => R r4 h4) E) (
        Join1 (fun J5 =>
        CallsH P 90 #[t25, (str [46, 91, 93, 42, 94, 36, 47, 92])] h1 (fun t37 h5 =>
        boolV t37 fun b6 => bcase b6 (
        (undef = undef ∧ ((undef = undef ∧ (J5 (.bool true) h5))))) (
        Reads P (nilS t0) h5 fun t40 =>
        Reads P (Instr.fieldAt 71 t40 2) h5 fun t41 =>
        pLoad P 4 t41 h5 fun t42 =>
        boolV t42 fun b7 => bcase b7 (
        CallsH P 90 #[t25, (str [40, 41, 43, 63, 123, 125, 124])] h5 (fun t45 h6 =>
        J5 t45 h6) E) (
        J5 (.bool false) h5))) E)
      (fun t47 h7 =>
      boolV t47 fun b8 => bcase b8 (
        Reads P (nilS t0) h7 fun t49 =>
        Reads P (Instr.fieldAt 71 t49 1) h7 fun t50 =>
        pLoad P 3 t50 h7 fun t51 =>
        Reads P (binS .add 3 true t51 (.int .i64 2)) h7 fun t52 =>
        Reads P (nilS t0) h7 fun t53 =>
        Reads P (Instr.fieldAt 71 t53 1) h7 fun t54 =>
        pStore P 3 t54 t52 h7 fun h8 =>
        CallsH P 15 #[t25] h8 (fun t56 h9 =>
        pStore P 36 t2 t56 h9 fun h10 =>
        pLoad P 36 t2 h10 fun r9 => R r9 h10) E) (
        J1 h7)))) (
      J1 h1))
  (fun h11 =>
  Reads P (nilS t0) h11 fun t59 =>
  Reads P (Instr.fieldAt 71 t59 1) h11 fun t60 =>
  pLoad P 3 t60 h11 fun t61 =>
  CallsH P 37 #[t0, (.int .i64 10), t61] h11 (fun t62 h12 =>
  pStore P 36 t2 t62 h12 fun h13 =>
  pLoad P 36 t2 h13 fun r10 => R r10 h13) E)
theorem C91 {E : List PanicEntry → Heap → Prop} {t0 : Value} {h : Heap} {R : Value → Heap → Prop} (hs : S91 Tryz.prog E t0 h R) : CallsH Tryz.prog 91 #[t0] h R E :=
  calls_of_vc H91 Tryz.mixed Tryz.func91 rfl (by kernel_rfl) (by kernel_rfl) (Eq.mp (show S91 Tryz.prog E t0 h R = vcFun Tryz.prog H91 E Tryz.f91.results.toList _ [t0] h R from by kernel_rfl) hs)

def H92 : Hints := { r := fun _ => none, s := fun i => match i with | 4 => some [] | 5 => some [63] | 9 => some [85] | 15 => some [112] | _ => none, l := fun i => match i with | 6 => some [12] | _ => none, d := fun i => match i with | 11 => some (.cut 2 (.take 0 (.take 1 (.take 2 (.take 3 (.act 4 (.take 5 (.take 6 (.cut 1 (.take 7 .done)))) .stop)))))) | 12 => some (.cut 2 (.take 0 (.take 1 (.take 2 (.take 3 (.act 4 (.cut 1 (.take 5 (.take 6 (.take 7 .done)))) .stop)))))) | _ => none }
def S92 (P : Program) (E : List PanicEntry → Heap → Prop) (t0 t1 t2 : Value) (h : Heap) (R : Value → Heap → Prop) : Prop :=
  pAlloc P 33 h fun t7 h1 =>
  Reads P (Instr.indexAt 29 t0 t1) h1 fun t17 =>
  pLoad P 5 t17 h1 fun t18 =>
  Join0 (fun J1 =>
    Reads P (binS .eql 5 true t18 (.int .u8 91)) h1 fun t20 =>
    boolV t20 fun b2 => bcase b2 (
    Reads P (binS .add 3 true t1 (.int .i64 1)) h1 fun t23 =>
    Reads P (builtinS .len #[29] 3 #[t0]) h1 fun t25 =>
    Reads P (binS .lss 3 false t23 t25) h1 fun t26 =>
    boolV t26 fun b3 => bcase b3 (
    Reads P (binS .add 3 true t1 (.int .i64 1)) h1 fun t31 =>
    Reads P (Instr.indexAt 29 t0 t31) h1 fun t32 =>
    pLoad P 5 t32 h1 fun t33 =>
    Reads P (binS .eql 5 true t33 (.int .u8 46)) h1 fun t34 =>
    boolV t34 fun b4 => bcase b4 (
    Reads P (Instr.build 33 #[]) h1 fun t44 =>
    pStore P 33 t7 t44 h1 fun h2 =>
    pLoad P 33 t7 h2 fun r5 => R (.tuple #[(.int .i64 0), r5, t1, (.int .i64 8), t1]) h2) (
    Reads P (binS .add 3 true t1 (.int .i64 1)) h1 fun t38 =>
    Reads P (Instr.indexAt 29 t0 t38) h1 fun t39 =>
    pLoad P 5 t39 h1 fun t40 =>
    Reads P (binS .eql 5 true t40 (.int .u8 61)) h1 fun t41 =>
    boolV t41 fun b6 => bcase b6 (
      Reads P (Instr.build 33 #[]) h1 fun t44_2 =>
      pStore P 33 t7 t44_2 h1 fun h3 =>
      pLoad P 33 t7 h3 fun r7 => R (.tuple #[(.int .i64 0), r7, t1, (.int .i64 8), t1]) h3) (
      J1 h1))) (
    (undef = undef ∧ ((undef = undef ∧ ((undef = undef ∧ ((undef = undef ∧ ((undef = undef ∧ ((undef = undef ∧ (J1 h1)))))))))))))) (
    (undef = undef ∧ ((undef = undef ∧ ((undef = undef ∧ ((undef = undef ∧ ((undef = undef ∧ ((undef = undef ∧ (J1 h1))))))))))))))
  (fun h4 =>
  Join1 (fun J8 =>
    Reads P (binS .eql 5 true t18 (.int .u8 91)) h4 fun t48 =>
    boolV t48 fun b9 => bcase b9 (
    Reads P (binS .add 3 true t1 (.int .i64 1)) h4 fun t51 =>
    Reads P (builtinS .len #[29] 3 #[t0]) h4 fun t53 =>
    Reads P (binS .lss 3 false t51 t53) h4 fun t54 =>
    boolV t54 fun b10 => bcase b10 (
    Reads P (binS .add 3 true t1 (.int .i64 1)) h4 fun t59 =>
    Reads P (Instr.indexAt 29 t0 t59) h4 fun t60 =>
    pLoad P 5 t60 h4 fun t61 =>
    Reads P (binS .eql 5 true t61 (.int .u8 58)) h4 fun t62 =>
    J8 t62 h4) (
    J8 (.bool false) h4)) (
    J8 (.bool false) h4))
  (fun t63 h5 =>
  boolV t63 fun b11 => bcase b11 (
    Reads P (binS .add 3 true t1 (.int .i64 2)) h5 fun t65 =>
    Loop1 t65 h5 (fun C12 t12 h6 =>
      Reads P (binS .add 3 true t12 (.int .i64 1)) h6 fun t67 =>
      Reads P (builtinS .len #[29] 3 #[t0]) h6 fun t69 =>
      Reads P (binS .lss 3 false t67 t69) h6 fun t70 =>
      boolV t70 fun b13 => bcase b13 (
        Join1 (fun J14 =>
        Reads P (Instr.indexAt 29 t0 t12) h6 fun t75 =>
        pLoad P 5 t75 h6 fun t76 =>
        Reads P (binS .eql 5 true t76 (.int .u8 58)) h6 fun t77 =>
        boolV t77 fun b15 => bcase b15 (
        Reads P (binS .add 3 true t12 (.int .i64 1)) h6 fun t81 =>
        Reads P (Instr.indexAt 29 t0 t81) h6 fun t82 =>
        pLoad P 5 t82 h6 fun t83 =>
        Reads P (binS .eql 5 true t83 (.int .u8 93)) h6 fun t84 =>
        J14 t84 h6) (
        J14 (.bool false) h6))
      (fun t85 h7 =>
      boolV t85 fun b16 => bcase b16 (
        Reads P (binS .add 3 true t1 (.int .i64 2)) h7 fun t89 =>
        Reads P (Instr.sliceAt 29 t0 (some t89) (some t12) none) h7 fun t91 =>
        Reads P (convert 29 9 t91) h7 fun t92 =>
        CallsH P 111 #[t92] h7 (fun t93 h8 =>
        Reads P (Instr.extract t93 0) h8 fun t94 =>
        Reads P (Instr.extract t93 1) h8 fun t95 =>
        pAlloc P 33 h8 fun t13 h9 =>
        pStore P 33 t13 t94 h9 fun h10 =>
        Reads P (Op.unary .not t95) h10 fun t97 =>
        boolV t97 fun b17 => bcase b17 (
          Stable h10 fun S18 =>
          pLoadS P 33 t13 S18 fun t98 =>
          (pStore P 33 t7 t98 h10 fun h11 =>
          S18 h11 ∧ (pLoad P 33 t7 h11 fun r19 => R (.tuple #[(.int .i64 0), r19, t1, (.int .i64 8), t1]) h11)) ∧ True) (
          Stable h10 fun S20 =>
        pLoadS P 33 t13 S20 fun t101 =>
        ReadsS P (binS .add 3 true t12 (.int .i64 2)) S20 fun t103 =>
        (pStore P 33 t7 t101 h10 fun h12 =>
        S20 h12 ∧ (pLoad P 33 t7 h12 fun r21 => R (.tuple #[(.int .i64 (-1)), r21, t103, (.int .i64 0), (.int .i64 0)]) h12)) ∧ True)) E) (
        Reads P (binS .add 3 true t12 (.int .i64 1)) h7 fun t72 =>
      C12 t72 h7))) (
        Reads P (Instr.build 33 #[]) h6 fun t104 =>
    pStore P 33 t7 t104 h6 fun h13 =>
    pLoad P 33 t7 h13 fun r22 => R (.tuple #[(.int .i64 0), r22, t1, (.int .i64 8), t1]) h13))) (
    Join1 (fun J23 =>
    Reads P (binS .eql 5 true t18 (.int .u8 92)) h5 fun t108 =>
    boolV t108 fun b24 => bcase b24 (
    Reads P (binS .eql 3 true t2 (.int .i64 2)) h5 fun t111 =>
    J23 t111 h5) (
    J23 (.bool false) h5))
  (fun t112 h14 =>
  boolV t112 fun b25 => bcase b25 (
    Reads P (binS .add 3 true t1 (.int .i64 1)) h14 fun t114 =>
    Reads P (builtinS .len #[29] 3 #[t0]) h14 fun t116 =>
    Reads P (binS .eql 3 false t114 t116) h14 fun t117 =>
    boolV t117 fun b26 => bcase b26 (
      Reads P (Instr.build 33 #[]) h14 fun t118 =>
      Reads P (builtinS .len #[29] 3 #[t0]) h14 fun t121 =>
      pStore P 33 t7 t118 h14 fun h15 =>
      pLoad P 33 t7 h15 fun r27 => R (.tuple #[(.int .i64 0), r27, t1, (.int .i64 8), t121]) h15) (
      Reads P (binS .add 3 true t1 (.int .i64 1)) h14 fun t124 =>
    Reads P (Instr.indexAt 29 t0 t124) h14 fun t125 =>
    pLoad P 5 t125 h14 fun t126 =>
    Reads P (convert 5 3 t126) h14 fun t127 =>
    Reads P (Instr.build 33 #[]) h14 fun t128 =>
    Reads P (binS .add 3 true t1 (.int .i64 2)) h14 fun t130 =>
    pStore P 33 t7 t128 h14 fun h16 =>
    pLoad P 33 t7 h16 fun r28 => R (.tuple #[t127, r28, t130, (.int .i64 0), (.int .i64 0)]) h16)) (
    Reads P (convert 5 3 t18) h14 fun t132 =>
  Reads P (Instr.build 33 #[]) h14 fun t133 =>
  Reads P (binS .add 3 true t1 (.int .i64 1)) h14 fun t135 =>
  pStore P 33 t7 t133 h14 fun h17 =>
  pLoad P 33 t7 h17 fun r29 => R (.tuple #[t132, r29, t135, (.int .i64 0), (.int .i64 0)]) h17)))))
theorem C92 {E : List PanicEntry → Heap → Prop} {t0 t1 t2 : Value} {h : Heap} {R : Value → Heap → Prop} (hs : S92 Tryz.prog E t0 t1 t2 h R) : CallsH Tryz.prog 92 #[t0, t1, t2] h R E :=
  calls_of_vc H92 Tryz.mixed Tryz.func92 rfl (by kernel_rfl) (by kernel_rfl) (Eq.mp (show S92 Tryz.prog E t0 t1 t2 h R = vcFun Tryz.prog H92 E Tryz.f92.results.toList _ [t0, t1, t2] h R from by kernel_rfl) hs)

def H93 : Hints := { r := fun _ => none, s := fun _ => none, l := fun i => match i with | 2 => some [6] | _ => none, d := fun i => match i with | 4 => some (.cut 1 (.take 0 (.take 1 (.take 2 (.take 3 (.take 4 (.take 5 (.take 6 (.take 7 (.cut 0 (.act 8 .done .stop))))))))))) | _ => none }
def S93 (P : Program) (E : List PanicEntry → Heap → Prop) (t0 t1 : Value) (h : Heap) (R : Value → Heap → Prop) : Prop :=
  pNew 33 t0 h fun t2 h1 =>
  pNew 33 t1 h1 fun t3 h2 =>
  pAlloc P 33 h2 fun t4 h3 =>
  Loop1 (.int .i64 0) h3 (fun C1 t6 h4 =>
    Reads P (binS .lss 3 true t6 (.int .i64 4)) h4 fun t7 =>
    boolV t7 fun b2 => bcase b2 (
      Reads P (Instr.indexAt 33 t2 t6) h4 fun t10 =>
    pLoad P 31 t10 h4 fun t11 =>
    Reads P (Instr.indexAt 33 t3 t6) h4 fun t13 =>
    pLoad P 31 t13 h4 fun t14 =>
    Reads P (binS .or 31 false t11 t14) h4 fun t15 =>
    Reads P (Instr.indexAt 33 t2 t6) h4 fun t16 =>
    (pStore P 31 t16 t15 h4 fun h5 =>
    True ∧ (Reads P (binS .add 3 true t6 (.int .i64 1)) h5 fun t17 =>
    C1 t17 h5)) ∧ True) (
      pLoad P 33 t2 h4 fun t18 =>
  pStore P 33 t4 t18 h4 fun h6 =>
  pLoad P 33 t4 h6 fun r3 => R r3 h6))
theorem C93 {E : List PanicEntry → Heap → Prop} {t0 t1 : Value} {h : Heap} {R : Value → Heap → Prop} (hs : S93 Tryz.prog E t0 t1 h R) : CallsH Tryz.prog 93 #[t0, t1] h R E :=
  calls_of_vc H93 Tryz.mixed Tryz.func93 rfl (by kernel_rfl) (by kernel_rfl) (Eq.mp (show S93 Tryz.prog E t0 t1 h R = vcFun Tryz.prog H93 E Tryz.f93.results.toList _ [t0, t1] h R from by kernel_rfl) hs)

def H94 : Hints := { r := fun _ => none, s := fun i => match i with | 6 => some [20] | _ => none, l := fun i => match i with | 3 => some [8] | _ => none, d := fun _ => none }
def S94 (P : Program) (E : List PanicEntry → Heap → Prop) (t0 t1 : Value) (h : Heap) (R : Value → Heap → Prop) : Prop :=
  pAlloc P 33 h fun t4 h1 =>
  Reads P (Instr.build 33 #[]) h1 fun t7 =>
  pAlloc P 33 h1 fun t5 h2 =>
  pStore P 33 t5 t7 h2 fun h3 =>
  Loop1 (.int .i64 0) h3 (fun C1 t8 h4 =>
    Reads P (binS .lss 3 true t8 (.int .i64 256)) h4 fun t9 =>
    boolV t9 fun b2 => bcase b2 (
      Join1 (fun J3 =>
      Reads P (convert 3 5 t8) h4 fun t12 =>
      Reads P (binS .geq 5 false t12 t0) h4 fun t14 =>
      boolV t14 fun b4 => bcase b4 (
      Reads P (convert 3 5 t8) h4 fun t17 =>
      Reads P (binS .leq 5 false t17 t1) h4 fun t19 =>
      J3 t19 h4) (
      J3 (.bool false) h4))
    (fun t20 h5 =>
    boolV t20 fun b5 => bcase b5 (
      pLoad P 33 t5 h5 fun t21 =>
      Reads P (convert 3 5 t8) h5 fun t23 =>
      CallsH P 33 #[t21, t23] h5 (fun t24 h6 =>
      pStore P 33 t5 t24 h6 fun h7 =>
      Reads P (binS .add 3 true t8 (.int .i64 1)) h7 fun t25 =>
    C1 t25 h7) E) (
      Reads P (binS .add 3 true t8 (.int .i64 1)) h5 fun t25_2 =>
    C1 t25_2 h5))) (
      pLoad P 33 t5 h4 fun t26 =>
  pStore P 33 t4 t26 h4 fun h8 =>
  pLoad P 33 t4 h8 fun r6 => R r6 h8))
theorem C94 {E : List PanicEntry → Heap → Prop} {t0 t1 : Value} {h : Heap} {R : Value → Heap → Prop} (hs : S94 Tryz.prog E t0 t1 h R) : CallsH Tryz.prog 94 #[t0, t1] h R E :=
  calls_of_vc H94 Tryz.mixed Tryz.func94 rfl (by kernel_rfl) (by kernel_rfl) (Eq.mp (show S94 Tryz.prog E t0 t1 h R = vcFun Tryz.prog H94 E Tryz.f94.results.toList _ [t0, t1] h R from by kernel_rfl) hs)

def H95 : Hints := { r := fun _ => none, s := fun i => match i with | 3 => some [] | 6 => some [] | _ => none, l := fun i => match i with | 1 => some [0] | 17 => some [45] | _ => none, d := fun _ => none }
def S95 (P : Program) (E : List PanicEntry → Heap → Prop) (t0 t1 t2 : Value) (h : Heap) (R : Value → Heap → Prop) : Prop :=
  Loop1 t0 h (fun C1 t0_2 h1 =>
    Join0 (fun J2 =>
      boolV t2 fun b3 => bcase b3 (
      Reads P (binS .eql 26 false t0_2 t1) h1 fun t18 =>
      boolV t18 fun b4 => bcase b4 (
        R (.bool true) h1) (
        J2 h1)) (
      J2 h1))
    (fun h2 =>
    Join0 (fun J5 =>
      Reads P (Instr.typeAssert t0_2 26 152 true) h2 fun t22 =>
      Reads P (Instr.extract t22 0) h2 fun t23 =>
      Reads P (Instr.extract t22 1) h2 fun t24 =>
      boolV t24 fun b6 => bcase b6 (
      Runs P (invoke (.fn (.method "Is") #[]) (#[t23] ++ #[t1])) h2 (fun t29 h3 =>
      boolV t29 fun b7 => bcase b7 (
        R (.bool true) h3) (
        J5 h3)) E) (
      J5 h2))
    (fun h4 =>
    Reads P (Instr.typeAssert t0_2 26 125 true) h4 fun t32 =>
    Reads P (Instr.extract t32 1) h4 fun t33 =>
    Reads P (Instr.extract t32 0) h4 fun t34 =>
    boolV t33 fun b8 => bcase b8 (
      Runs P (invoke (.fn (.method "Unwrap") #[]) (#[t34] ++ #[])) h4 (fun t36 h5 =>
      Reads P (binS .eql 26 true t36 .nilIface) h5 fun t38 =>
      boolV t38 fun b9 => bcase b9 (
        R (.bool false) h5) (
        C1 t36 h5)) E) (
      Reads P (Instr.typeAssert t0_2 26 127 true) h4 fun t39 =>
      Reads P (Instr.extract t39 1) h4 fun t40 =>
      Reads P (Instr.extract t39 0) h4 fun t41 =>
      boolV t40 fun b10 => bcase b10 (
        Runs P (invoke (.fn (.method "Unwrap") #[]) (#[t41] ++ #[])) h4 (fun t43 h6 =>
        Reads P (builtinS .len #[128] 3 #[t43]) h6 fun t44 =>
        Loop1 (.int .i64 0) h6 (fun C11 t45 h7 =>
          Reads P (binS .lss 3 false t45 t44) h7 fun t46 =>
          boolV t46 fun b12 => bcase b12 (
            Reads P (Instr.indexAt 128 t43 t45) h7 fun t47 =>
          pLoad P 26 t47 h7 fun t48 =>
          CallsH P 95 #[t48, t1, t2] h7 (fun t52 h8 =>
          boolV t52 fun b13 => bcase b13 (
            R (.bool true) h8) (
            Reads P (binS .add 3 true t45 (.int .i64 1)) h8 fun t53 =>
          C11 t53 h8)) E) (
            R (.bool false) h7))) E) (
        R (.bool false) h4)))))
theorem C95 {E : List PanicEntry → Heap → Prop} {t0 t1 t2 : Value} {h : Heap} {R : Value → Heap → Prop} (hs : S95 Tryz.prog E t0 t1 t2 h R) : CallsH Tryz.prog 95 #[t0, t1, t2] h R E :=
  calls_of_vc H95 Tryz.mixed Tryz.func95 rfl (by kernel_rfl) (by kernel_rfl) (Eq.mp (show S95 Tryz.prog E t0 t1 t2 h R = vcFun Tryz.prog H95 E Tryz.f95.results.toList _ [t0, t1, t2] h R from by kernel_rfl) hs)

def H96 : Hints := { r := fun _ => none, s := fun _ => none, l := fun i => match i with | 2 => some [4] | _ => none, d := fun _ => none }
def S96 (P : Program) (E : List PanicEntry → Heap → Prop) (t0 : Value) (h : Heap) (R : Value → Heap → Prop) : Prop :=
  pNew 33 t0 h fun t1 h1 =>
  pAlloc P 33 h1 fun t2 h2 =>
  Loop1 (.int .i64 0) h2 (fun C1 t4 h3 =>
    Reads P (binS .lss 3 true t4 (.int .i64 4)) h3 fun t5 =>
    boolV t5 fun b2 => bcase b2 (
      Reads P (Instr.indexAt 33 t1 t4) h3 fun t9 =>
    pLoad P 31 t9 h3 fun t10 =>
    Reads P (Op.unary .xor t10) h3 fun t11 =>
    Reads P (Instr.indexAt 33 t1 t4) h3 fun t12 =>
    pStore P 31 t12 t11 h3 fun h4 =>
    Reads P (binS .add 3 true t4 (.int .i64 1)) h4 fun t13 =>
    C1 t13 h4) (
      pLoad P 33 t1 h3 fun t14 =>
  pStore P 33 t2 t14 h3 fun h5 =>
  pLoad P 33 t2 h5 fun r3 => R r3 h5))
theorem C96 {E : List PanicEntry → Heap → Prop} {t0 : Value} {h : Heap} {R : Value → Heap → Prop} (hs : S96 Tryz.prog E t0 h R) : CallsH Tryz.prog 96 #[t0] h R E :=
  calls_of_vc H96 Tryz.mixed Tryz.func96 rfl (by kernel_rfl) (by kernel_rfl) (Eq.mp (show S96 Tryz.prog E t0 h R = vcFun Tryz.prog H96 E Tryz.f96.results.toList _ [t0] h R from by kernel_rfl) hs)

def H97 : Hints := { r := fun _ => none, s := fun _ => none, l := fun _ => none, d := fun _ => none }
def S97 (P : Program) (E : List PanicEntry → Heap → Prop) (t0 : Value) (h : Heap) (R : Value → Heap → Prop) : Prop :=
  Reads P (nilS t0) h fun t3 =>
  Reads P (Instr.fieldAt 87 t3 0) h fun t4 =>
  pLoad P 85 t4 h fun t5 =>
  Reads P (binS .eql 85 true t5 (.pointer none)) h fun t6 =>
  boolV t6 fun b1 => bcase b1 (
    Reads P (convert 85 91 t0) h fun t9 =>
    Runs P ((do let d ← Deferred.ofValue (.func (.func 112) #[] #[]) #[t9]; invoke d.target d.args)) h (fun t10 h1 =>
    Reads P (convert 91 85 t10) h1 fun t11 =>
    Reads P (nilS t0) h1 fun t12 =>
    Reads P (Instr.fieldAt 87 t12 0) h1 fun t13 =>
    pStore P 85 t13 t11 h1 fun h2 =>
    R (.tuple #[]) h2) E) (
    Reads P (nilS t0) h fun t15 =>
    Reads P (Instr.fieldAt 87 t15 0) h fun t16 =>
    pLoad P 85 t16 h fun t17 =>
    Reads P (binS .neq 85 false t17 t0) h fun t19 =>
    boolV t19 fun b2 => bcase b2 (
      False) (
      R (.tuple #[]) h))
theorem C97 {E : List PanicEntry → Heap → Prop} {t0 : Value} {h : Heap} {R : Value → Heap → Prop} (hs : S97 Tryz.prog E t0 h R) : CallsH Tryz.prog 97 #[t0] h R E :=
  calls_of_vc H97 Tryz.mixed Tryz.func97 rfl (by kernel_rfl) (by kernel_rfl) (Eq.mp (show S97 Tryz.prog E t0 h R = vcFun Tryz.prog H97 E Tryz.f97.results.toList _ [t0] h R from by kernel_rfl) hs)

def H98 : Hints := { r := fun _ => none, s := fun _ => none, l := fun _ => none, d := fun _ => none }
def S98 (P : Program) (E : List PanicEntry → Heap → Prop) (t0 t1 : Value) (h : Heap) (R : Value → Heap → Prop) : Prop :=
  pNew 33 t0 h fun t2 h1 =>
  Reads P (binS .quo 5 true t1 (.int .u8 64)) h1 fun t6 =>
  Reads P (Instr.indexAt 33 t2 t6) h1 fun t7 =>
  pLoad P 31 t7 h1 fun t8 =>
  Reads P (binS .rem 5 true t1 (.int .u8 64)) h1 fun t10 =>
  Reads P (binS .shr 31 false t8 t10) h1 fun t11 =>
  Reads P (binS .and 31 true t11 (.int .u64 1)) h1 fun t12 =>
  Reads P (binS .eql 31 true t12 (.int .u64 1)) h1 fun t13 =>
  R t13 h1
theorem C98 {E : List PanicEntry → Heap → Prop} {t0 t1 : Value} {h : Heap} {R : Value → Heap → Prop} (hs : S98 Tryz.prog E t0 t1 h R) : CallsH Tryz.prog 98 #[t0, t1] h R E :=
  calls_of_vc H98 Tryz.mixed Tryz.func98 rfl (by kernel_rfl) (by kernel_rfl) (Eq.mp (show S98 Tryz.prog E t0 t1 h R = vcFun Tryz.prog H98 E Tryz.f98.results.toList _ [t0, t1] h R from by kernel_rfl) hs)

def H99 : Hints := { r := fun _ => none, s := fun _ => none, l := fun _ => none, d := fun _ => none }
def S99 (P : Program) (E : List PanicEntry → Heap → Prop) (t0 : Value) (h : Heap) (R : Value → Heap → Prop) : Prop :=
  Reads P (nilS t0) h fun t4 =>
  Reads P (Instr.fieldAt 87 t4 1) h fun t5 =>
  pLoad P 29 t5 h fun t6 =>
  Reads P (builtinS .len #[29] 3 #[t6]) h fun t7 =>
  R t7 h
theorem C99 {E : List PanicEntry → Heap → Prop} {t0 : Value} {h : Heap} {R : Value → Heap → Prop} (hs : S99 Tryz.prog E t0 h R) : CallsH Tryz.prog 99 #[t0] h R E :=
  calls_of_vc H99 Tryz.mixed Tryz.func99 rfl (by kernel_rfl) (by kernel_rfl) (Eq.mp (show S99 Tryz.prog E t0 h R = vcFun Tryz.prog H99 E Tryz.f99.results.toList _ [t0] h R from by kernel_rfl) hs)

def H100 : Hints := { r := fun _ => none, s := fun _ => none, l := fun _ => none, d := fun _ => none }
def S100 (P : Program) (E : List PanicEntry → Heap → Prop) (t0 : Value) (h : Heap) (R : Value → Heap → Prop) : Prop :=
  Reads P (binS .shr 5 true t0 (.int .u64 4)) h fun t4 =>
  Reads P (convert 5 31 t4) h fun t5 =>
  CallsH P 101 #[t5, (.int .i64 16), (.bool false)] h (fun t6 h1 =>
  Reads P (binS .and 5 true t0 (.int .u8 15)) h1 fun t8 =>
  Reads P (convert 5 31 t8) h1 fun t9 =>
  CallsH P 101 #[t9, (.int .i64 16), (.bool false)] h1 (fun t10 h2 =>
  Reads P (binS .add 9 false t6 t10) h2 fun t11 =>
  R t11 h2) E) E
theorem C100 {E : List PanicEntry → Heap → Prop} {t0 : Value} {h : Heap} {R : Value → Heap → Prop} (hs : S100 Tryz.prog E t0 h R) : CallsH Tryz.prog 100 #[t0] h R E :=
  calls_of_vc H100 Tryz.mixed Tryz.func100 rfl (by kernel_rfl) (by kernel_rfl) (Eq.mp (show S100 Tryz.prog E t0 h R = vcFun Tryz.prog H100 E Tryz.f100.results.toList _ [t0] h R from by kernel_rfl) hs)

def H101 : Hints := { r := fun _ => none, s := fun i => match i with | 3 => some [] | 6 => some [7] | _ => none, l := fun i => match i with | 8 => some [0, 9] | _ => none, d := fun _ => none }
def S101 (P : Program) (E : List PanicEntry → Heap → Prop) (t0 t1 t2 : Value) (h : Heap) (R : Value → Heap → Prop) : Prop :=
  Join0 (fun J1 =>
    Reads P (binS .lss 3 true t1 (.int .i64 2)) h fun t11 =>
    boolV t11 fun b2 => bcase b2 (
    R (str []) h) (
    Reads P (binS .gtr 3 true t1 (.int .i64 16)) h fun t14 =>
    boolV t14 fun b3 => bcase b3 (
      R (str []) h) (
      J1 h)))
  (fun h1 =>
  Join1 (fun J4 =>
    boolV t2 fun b5 => bcase b5 (
      J4 (str [48, 49, 50, 51, 52, 53, 54, 55, 56, 57, 65, 66, 67, 68, 69, 70]) h1) (
      J4 (str [48, 49, 50, 51, 52, 53, 54, 55, 56, 57, 97, 98, 99, 100, 101, 102]) h1))
  (fun t7 h2 =>
  pAlloc P 156 h2 fun t8 h3 =>
  Loop2 t0 (.int .i64 64) h3 (fun C6 t0_2 t9 h4 =>
    Reads P (binS .sub 3 true t9 (.int .i64 1)) h4 fun t18 =>
    Reads P (convert 3 31 t1) h4 fun t23 =>
    Reads P (binS .rem 31 false t0_2 t23) h4 fun t24 =>
    Reads P (Instr.index 9 t7 t24) h4 fun t25 =>
    Reads P (Instr.indexAt 156 t8 t18) h4 fun t26 =>
    pStore P 5 t26 t25 h4 fun h5 =>
    Reads P (convert 3 31 t1) h5 fun t29 =>
    Reads P (binS .quo 31 false t0_2 t29) h5 fun t30 =>
    Reads P (binS .eql 31 true t30 (.int .u64 0)) h5 fun t32 =>
    boolV t32 fun b7 => bcase b7 (
      Reads P (Instr.sliceAt 156 t8 (some t18) none none) h5 fun t34 =>
      Reads P (convert 29 9 t34) h5 fun t35 =>
      R t35 h5) (
      C6 t30 t18 h5))))
theorem C101 {E : List PanicEntry → Heap → Prop} {t0 t1 t2 : Value} {h : Heap} {R : Value → Heap → Prop} (hs : S101 Tryz.prog E t0 t1 t2 h R) : CallsH Tryz.prog 101 #[t0, t1, t2] h R E :=
  calls_of_vc H101 Tryz.mixed Tryz.func101 rfl (by kernel_rfl) (by kernel_rfl) (Eq.mp (show S101 Tryz.prog E t0 t1 t2 h R = vcFun Tryz.prog H101 E Tryz.f101.results.toList _ [t0, t1, t2] h R from by kernel_rfl) hs)

def H102 : Hints := { r := fun _ => none, s := fun _ => none, l := fun _ => none, d := fun _ => none }
def S102 (P : Program) (E : List PanicEntry → Heap → Prop) (t0 t1 : Value) (h : Heap) (R : Value → Heap → Prop) : Prop :=
  pNew 33 t0 h fun t2 h1 =>
  Reads P (binS .quo 5 true t1 (.int .u8 64)) h1 fun t6 =>
  Reads P (Instr.indexAt 33 t2 t6) h1 fun t7 =>
  pLoad P 31 t7 h1 fun t8 =>
  Reads P (binS .rem 5 true t1 (.int .u8 64)) h1 fun t10 =>
  Reads P (binS .shr 31 false t8 t10) h1 fun t11 =>
  Reads P (binS .and 31 true t11 (.int .u64 1)) h1 fun t12 =>
  Reads P (binS .eql 31 true t12 (.int .u64 1)) h1 fun t13 =>
  R t13 h1
theorem C102 {E : List PanicEntry → Heap → Prop} {t0 t1 : Value} {h : Heap} {R : Value → Heap → Prop} (hs : S102 Tryz.prog E t0 t1 h R) : CallsH Tryz.prog 102 #[t0, t1] h R E :=
  calls_of_vc H102 Tryz.mixed Tryz.func102 rfl (by kernel_rfl) (by kernel_rfl) (Eq.mp (show S102 Tryz.prog E t0 t1 h R = vcFun Tryz.prog H102 E Tryz.f102.results.toList _ [t0, t1] h R from by kernel_rfl) hs)

def H104 : Hints := { r := fun _ => none, s := fun i => match i with | 19 => some [] | _ => none, l := fun i => match i with | 19 => some [] | _ => none, d := fun _ => none }
def S104 (P : Program) (E : List PanicEntry → Heap → Prop) (t0 : Value) (h : Heap) (R : Value → Heap → Prop) : Prop :=
  pAlloc P 36 h fun t2 h1 =>
  Reads P (nilS t0) h1 fun t6 =>
  Reads P (Instr.fieldAt 57 t6 1) h1 fun t7 =>
  pLoad P 3 t7 h1 fun t8 =>
  pAlloc P 36 h1 fun t4 h2 =>
  Join0 (fun J1 =>
    CallsH P 117 #[t0] h2 (fun t26 h3 =>
    boolV t26 fun b2 => bcase b2 (
      Reads P (nilS t0) h3 fun t29 =>
      Reads P (Instr.fieldAt 57 t29 1) h3 fun t30 =>
      pLoad P 3 t30 h3 fun t31 =>
      CallsH P 58 #[t0, (.int .i64 3), t31] h3 (fun t32 h4 =>
      J1 h4) E) (
      CallsH P 79 #[t0, (str [94])] h3 (fun t35 h5 =>
      boolV t35 fun b3 => bcase b3 (
        CallsH P 118 #[t0, (.int .i64 2)] h5 (fun t37 h6 =>
        pStore P 36 t2 t37 h6 fun h7 =>
        pLoad P 36 t2 h7 fun r4 => R r4 h7) E) (
        CallsH P 79 #[t0, (str [36])] h5 (fun t40 h8 =>
        boolV t40 fun b5 => bcase b5 (
          CallsH P 118 #[t0, (.int .i64 3)] h8 (fun t42 h9 =>
          pStore P 36 t2 t42 h9 fun h10 =>
          pLoad P 36 t2 h10 fun r6 => R r6 h10) E) (
          CallsH P 79 #[t0, (str [40])] h8 (fun t45 h11 =>
          boolV t45 fun b7 => bcase b7 (
            Reads P (Instr.makeFunc (.func 55) #[t0] #[]) h11 fun t49 =>
            CallsH P 105 #[t0, t8, (str [41]), t49] h11 (fun t50 h12 =>
            pStore P 36 t4 t50 h12 fun h13 =>
            J1 h13) E) (
            CallsH P 81 #[t0, (str [92])] h11 (fun t53 h14 =>
            boolV t53 fun b8 => bcase b8 (
              CallsH P 106 #[t0, (str [46, 91, 93, 40, 41, 42, 43, 63, 123, 125, 124, 94, 36, 47, 92])] h14 (fun t55 h15 =>
              pStore P 36 t4 t55 h15 fun h16 =>
              J1 h16) E) (
              CallsH P 79 #[t0, (str [46])] h14 (fun t58 h17 =>
              boolV t58 fun b9 => bcase b9 (
                CallsH P 66 #[] h17 (fun t59 h18 =>
                Reads P (Instr.build 36 #[(0, (.int .i64 1)), (1, t59)]) h18 fun t60 =>
                pStore P 36 t4 t60 h18 fun h19 =>
                J1 h19) E) (
                CallsH P 79 #[t0, (str [91])] h17 (fun t63 h20 =>
                boolV t63 fun b10 => bcase b10 (
                  CallsH P 107 #[t0] h20 (fun t65 h21 =>
                  pStore P 36 t4 t65 h21 fun h22 =>
                  J1 h22) E) (
                  Reads P (nilS t0) h20 fun t10 =>
                  Reads P (Instr.fieldAt 57 t10 1) h20 fun t11 =>
                  pLoad P 3 t11 h20 fun t12 =>
                  Reads P (binS .add 3 true t12 (.int .i64 1)) h20 fun t13 =>
                  Reads P (nilS t0) h20 fun t14 =>
                  Reads P (Instr.fieldAt 57 t14 1) h20 fun t15 =>
                  pStore P 3 t15 t13 h20 fun h23 =>
                  Reads P (nilS t0) h23 fun t17 =>
                  Reads P (Instr.fieldAt 57 t17 0) h23 fun t18 =>
                  pLoad P 29 t18 h23 fun t19 =>
                  Reads P (Instr.indexAt 29 t19 t8) h23 fun t21 =>
                  pLoad P 5 t21 h23 fun t22 =>
                  CallsH P 108 #[t22] h23 (fun t23 h24 =>
                  pStore P 36 t4 t23 h24 fun h25 =>
                  J1 h25) E)) E)) E)) E)) E)) E)) E)) E)
  (fun h26 =>
  Loop0 h26 (fun C11 h27 =>
    CallsH P 117 #[t0] h27 (fun t67 h28 =>
    boolV t67 fun b12 => bcase b12 (
      Reads P (nilS t0) h28 fun t69 =>
    Reads P (Instr.fieldAt 57 t69 1) h28 fun t70 =>
    pLoad P 3 t70 h28 fun t71 =>
    CallsH P 79 #[t0, (str [42])] h28 (fun t74 h29 =>
    boolV t74 fun b13 => bcase b13 (
      pLoad P 36 t4 h29 fun t75 =>
      CallsH P 83 #[t75, (.int .i64 0), (.int .i64 (-1))] h29 (fun t76 h30 =>
      pStore P 36 t4 t76 h30 fun h31 =>
      C11 h31) E) (
      CallsH P 79 #[t0, (str [43])] h29 (fun t79 h32 =>
      boolV t79 fun b14 => bcase b14 (
        pLoad P 36 t4 h32 fun t80 =>
        CallsH P 83 #[t80, (.int .i64 1), (.int .i64 (-1))] h32 (fun t81 h33 =>
        pStore P 36 t4 t81 h33 fun h34 =>
        C11 h34) E) (
        CallsH P 79 #[t0, (str [63])] h32 (fun t84 h35 =>
        boolV t84 fun b15 => bcase b15 (
          pLoad P 36 t4 h35 fun t85 =>
          CallsH P 83 #[t85, (.int .i64 0), (.int .i64 1)] h35 (fun t86 h36 =>
          pStore P 36 t4 t86 h36 fun h37 =>
          C11 h37) E) (
          CallsH P 79 #[t0, (str [123])] h35 (fun t89 h38 =>
          boolV t89 fun b16 => bcase b16 (
            pLoad P 36 t4 h38 fun t91 =>
            CallsH P 84 #[t0, t91, t71, (str [125])] h38 (fun t93 h39 =>
            pStore P 36 t4 t93 h39 fun h40 =>
            C11 h40) E) (
            C11 h38)) E)) E)) E)) E) (
      pLoad P 36 t4 h28 fun t94 =>
  pStore P 36 t2 t94 h28 fun h41 =>
  pLoad P 36 t2 h41 fun r17 => R r17 h41)) E))
theorem C104 {E : List PanicEntry → Heap → Prop} {t0 : Value} {h : Heap} {R : Value → Heap → Prop} (hs : S104 Tryz.prog E t0 h R) : CallsH Tryz.prog 104 #[t0] h R E :=
  calls_of_vc H104 Tryz.mixed Tryz.func104 rfl (by kernel_rfl) (by kernel_rfl) (Eq.mp (show S104 Tryz.prog E t0 h R = vcFun Tryz.prog H104 E Tryz.f104.results.toList _ [t0] h R from by kernel_rfl) hs)

def H105 : Hints := { r := fun _ => none, s := fun i => match i with | 3 => some [] | 9 => some [] | _ => none, l := fun _ => none, d := fun _ => none }
def S105 (P : Program) (E : List PanicEntry → Heap → Prop) (t0 t1 t2 t3 : Value) (h : Heap) (R : Value → Heap → Prop) : Prop :=
  pAlloc P 36 h fun t8 h1 =>
  Join0 (fun J1 =>
    Reads P (nilS t0) h1 fun t12 =>
    Reads P (Instr.fieldAt 57 t12 4) h1 fun t13 =>
    pLoad P 3 t13 h1 fun t14 =>
    Reads P (binS .eql 3 true t14 (.int .i64 9)) h1 fun t15 =>
    boolV t15 fun b2 => bcase b2 (
      CallsH P 58 #[t0, (.int .i64 5), t1] h1 (fun t18 h2 =>
      J1 h2) E) (
      J1 h1))
  (fun h3 =>
  Reads P (nilS t0) h3 fun t20 =>
  Reads P (Instr.fieldAt 57 t20 4) h3 fun t21 =>
  pLoad P 3 t21 h3 fun t22 =>
  Reads P (binS .add 3 true t22 (.int .i64 1)) h3 fun t23 =>
  Reads P (nilS t0) h3 fun t24 =>
  Reads P (Instr.fieldAt 57 t24 4) h3 fun t25 =>
  pStore P 3 t25 t23 h3 fun h4 =>
  Reads P (nilS t0) h4 fun t27 =>
  Reads P (Instr.fieldAt 57 t27 4) h4 fun t28 =>
  pLoad P 3 t28 h4 fun t29 =>
  Reads P (nilS t0) h4 fun t31 =>
  Reads P (Instr.fieldAt 57 t31 3) h4 fun t32 =>
  pLoad P 3 t32 h4 fun t33 =>
  Reads P (binS .add 3 true t33 (.int .i64 1)) h4 fun t34 =>
  Reads P (nilS t0) h4 fun t35 =>
  Reads P (Instr.fieldAt 57 t35 3) h4 fun t36 =>
  pStore P 3 t36 t34 h4 fun h5 =>
  Runs P ((do let d ← Deferred.ofValue t3 #[]; invoke d.target d.args)) h5 (fun t38 h6 =>
  pAlloc P 36 h6 fun t10 h7 =>
  pStore P 36 t10 t38 h7 fun h8 =>
  Join0 (fun J3 =>
    CallsH P 79 #[t0, t2] h8 (fun t41 h9 =>
    Reads P (Op.unary .not t41) h9 fun t42 =>
    boolV t42 fun b4 => bcase b4 (
      Reads P (nilS t0) h9 fun t45 =>
      Reads P (Instr.fieldAt 57 t45 0) h9 fun t46 =>
      pLoad P 29 t46 h9 fun t47 =>
      Reads P (builtinS .len #[29] 3 #[t47]) h9 fun t48 =>
      CallsH P 58 #[t0, (.int .i64 9), t48] h9 (fun t49 h10 =>
      J3 h10) E) (
      J3 h9)) E)
  (fun h11 =>
  Reads P (nilS t0) h11 fun t51 =>
  Reads P (Instr.fieldAt 57 t51 3) h11 fun t52 =>
  pLoad P 3 t52 h11 fun t53 =>
  Reads P (binS .sub 3 true t53 (.int .i64 1)) h11 fun t54 =>
  Reads P (nilS t0) h11 fun t55 =>
  Reads P (Instr.fieldAt 57 t55 3) h11 fun t56 =>
  pStore P 3 t56 t54 h11 fun h12 =>
  pLoad P 36 t10 h12 fun t58 =>
  Runs P (vS (Instr.buildSlice 34 1 #[(0, t58)])) h12 (fun t59 h13 =>
  Reads P (Instr.build 36 #[(0, (.int .i64 7)), (4, t29), (5, t59)]) h13 fun t60 =>
  pStore P 36 t8 t60 h13 fun h14 =>
  pLoad P 36 t8 h14 fun r5 => R r5 h14) E)) E)
theorem C105 {E : List PanicEntry → Heap → Prop} {t0 t1 t2 t3 : Value} {h : Heap} {R : Value → Heap → Prop} (hs : S105 Tryz.prog E t0 t1 t2 t3 h R) : CallsH Tryz.prog 105 #[t0, t1, t2, t3] h R E :=
  calls_of_vc H105 Tryz.mixed Tryz.func105 rfl (by kernel_rfl) (by kernel_rfl) (Eq.mp (show S105 Tryz.prog E t0 t1 t2 t3 h R = vcFun Tryz.prog H105 E Tryz.f105.results.toList _ [t0, t1, t2, t3] h R from by kernel_rfl) hs)

def H106 : Hints := { r := fun _ => none, s := fun i => match i with | 3 => some [] | 7 => some [5] | 9 => some [] | _ => none, l := fun _ => none, d := fun i => match i with | 1 => some (.cut 1 (.take 0 (.take 1 (.take 2 (.take 3 (.take 4 (.take 5 (.take 6 (.take 7 (.take 8 (.take 9 (.take 10 .done)))))))))))) | 3 => some (.cut 1 (.take 0 (.take 1 (.take 2 (.take 3 (.take 4 (.take 5 (.take 6 (.take 7 (.take 8 (.take 9 (.take 10 (.take 11 .done))))))))))))) | _ => none }
def S106 (P : Program) (E : List PanicEntry → Heap → Prop) (t0 t1 : Value) (h : Heap) (R : Value → Heap → Prop) : Prop :=
  pAlloc P 36 h fun t4 h1 =>
  Join0 (fun J1 =>
    Reads P (nilS t0) h1 fun t7 =>
    Reads P (Instr.fieldAt 57 t7 1) h1 fun t8 =>
    pLoad P 3 t8 h1 fun t9 =>
    Reads P (binS .add 3 true t9 (.int .i64 1)) h1 fun t10 =>
    Reads P (nilS t0) h1 fun t12 =>
    Reads P (Instr.fieldAt 57 t12 0) h1 fun t13 =>
    pLoad P 29 t13 h1 fun t14 =>
    Reads P (builtinS .len #[29] 3 #[t14]) h1 fun t15 =>
    Reads P (binS .geq 3 false t10 t15) h1 fun t16 =>
    boolV t16 fun b2 => bcase b2 (
      Reads P (nilS t0) h1 fun t19 =>
      Reads P (Instr.fieldAt 57 t19 1) h1 fun t20 =>
      pLoad P 3 t20 h1 fun t21 =>
      CallsH P 58 #[t0, (.int .i64 10), t21] h1 (fun t22 h2 =>
      J1 h2) E) (
      J1 h1))
  (fun h3 =>
  Reads P (nilS t0) h3 fun t24 =>
  Reads P (Instr.fieldAt 57 t24 0) h3 fun t25 =>
  pLoad P 29 t25 h3 fun t26 =>
  Reads P (nilS t0) h3 fun t28 =>
  Reads P (Instr.fieldAt 57 t28 1) h3 fun t29 =>
  pLoad P 3 t29 h3 fun t30 =>
  Reads P (binS .add 3 true t30 (.int .i64 1)) h3 fun t31 =>
  Reads P (Instr.indexAt 29 t26 t31) h3 fun t32 =>
  pLoad P 5 t32 h3 fun t33 =>
  Join0 (fun J3 =>
    Join1 (fun J4 =>
      Reads P (binS .eql 5 true t33 (.int .u8 110)) h3 fun t36 =>
      boolV t36 fun b5 => bcase b5 (
        J4 (.int .u8 10) h3) (
        CallsH P 24 #[t1, t33] h3 (fun t40 h4 =>
      Reads P (binS .geq 3 true t40 (.int .i64 0)) h4 fun t41 =>
      boolV t41 fun b6 => bcase b6 (
        J4 t33 h4) (
        J3 h4)) E))
    (fun t5 h5 =>
    Reads P (nilS t0) h5 fun t43 =>
    Reads P (Instr.fieldAt 57 t43 1) h5 fun t44 =>
    pLoad P 3 t44 h5 fun t45 =>
    Reads P (binS .add 3 true t45 (.int .i64 2)) h5 fun t46 =>
    Reads P (nilS t0) h5 fun t47 =>
    Reads P (Instr.fieldAt 57 t47 1) h5 fun t48 =>
    pStore P 3 t48 t46 h5 fun h6 =>
    CallsH P 108 #[t5] h6 (fun t50 h7 =>
    pStore P 36 t4 t50 h7 fun h8 =>
    pLoad P 36 t4 h8 fun r7 => R r7 h8) E))
  (fun h9 =>
  Reads P (nilS t0) h9 fun t53 =>
  Reads P (Instr.fieldAt 57 t53 1) h9 fun t54 =>
  pLoad P 3 t54 h9 fun t55 =>
  CallsH P 58 #[t0, (.int .i64 10), t55] h9 (fun t56 h10 =>
  Reads P (Instr.build 36 #[]) h10 fun t57 =>
  pStore P 36 t4 t57 h10 fun h11 =>
  pLoad P 36 t4 h11 fun r8 => R r8 h11) E))
theorem C106 {E : List PanicEntry → Heap → Prop} {t0 t1 : Value} {h : Heap} {R : Value → Heap → Prop} (hs : S106 Tryz.prog E t0 t1 h R) : CallsH Tryz.prog 106 #[t0, t1] h R E :=
  calls_of_vc H106 Tryz.mixed Tryz.func106 rfl (by kernel_rfl) (by kernel_rfl) (Eq.mp (show S106 Tryz.prog E t0 t1 h R = vcFun Tryz.prog H106 E Tryz.f106.results.toList _ [t0, t1] h R from by kernel_rfl) hs)

def H107 : Hints := { r := fun _ => none, s := fun i => match i with | 4 => some [] | _ => none, l := fun _ => none, d := fun i => match i with | 1 => some (.cut 2 (.take 0 (.take 1 (.take 2 (.take 3 (.take 4 (.take 5 (.take 6 (.take 7 (.take 8 (.act 9 (.act 10 (.take 11 (.take 12 (.take 13 (.take 14 (.act 15 (.act 16 (.take 17 (.cut 1 (.take 18 .done))) .stop) .stop))))) (.act 15 (.act 10 (.take 11 (.take 12 (.take 13 (.take 14 (.act 16 (.take 17 (.cut 1 (.take 18 .done))) .stop))))) .stop) .stop)) (.act 15 (.act 9 (.act 10 (.take 11 (.take 12 (.take 13 (.take 14 (.act 16 (.take 17 (.cut 1 (.take 18 .done))) .stop))))) .stop) .stop) .stop)))))))))))) | _ => none }
def S107 (P : Program) (E : List PanicEntry → Heap → Prop) (t0 : Value) (h : Heap) (R : Value → Heap → Prop) : Prop :=
  pAlloc P 36 h fun t2 h1 =>
  Stable h1 fun S1 =>
  ReadsS P (nilS t0) S1 fun t8 =>
  ReadsS P (Instr.fieldAt 57 t8 0) S1 fun t9 =>
  pLoadS P 29 t9 S1 fun t10 =>
  ReadsS P (nilS t0) S1 fun t12 =>
  ReadsS P (Instr.fieldAt 57 t12 1) S1 fun t13 =>
  pLoadS P 3 t13 S1 fun t14 =>
  (CallsH P 28 #[t0] h1 (fun t16 h2 =>
  S1 h2 ∧ ((CallsH P 119 #[t10, t14, t16] h2 (fun t17 h3 =>
  S1 h3 ∧ (ReadsS P (Instr.extract t17 0) S1 fun t18 =>
  ReadsS P (Instr.extract t17 1) S1 fun t19 =>
  ReadsS P (Instr.extract t17 2) S1 fun t20 =>
  (pAlloc P 33 h3 fun t3 h4 =>
  S1 h4 ∧ ((pStore P 33 t3 t18 h4 fun h5 =>
  S1 h5 ∧ (Join0 (fun J2 =>
    Reads P (binS .neq 26 true t20 .nilIface) h5 fun t22 =>
    boolV t22 fun b3 => bcase b3 (
      Reads P (Instr.build 62 #[(0, t20)]) h5 fun t24 =>
      Reads P (Instr.makeInterface 62 t24) h5 fun t25 =>
      Runs P (vS (Instr.panic t25)) h5 (fun u4 h6 =>
      J2 h6) E) (
      J2 h5))
  (fun h7 =>
  Reads P (nilS t0) h7 fun t28 =>
  Reads P (Instr.fieldAt 57 t28 1) h7 fun t29 =>
  pStore P 3 t29 t19 h7 fun h8 =>
  pLoad P 33 t3 h8 fun t30 =>
  Reads P (Instr.build 36 #[(0, (.int .i64 1)), (1, t30)]) h8 fun t31 =>
  pStore P 36 t2 t31 h8 fun h9 =>
  pLoad P 36 t2 h9 fun r5 => R r5 h9))) ∧ True)) ∧ True)) E) ∧ ((pAlloc P 33 h2 fun t3_2 h10 =>
  S1 h10 ∧ ((CallsH P 119 #[t10, t14, t16] h10 (fun t17_2 h11 =>
  S1 h11 ∧ (ReadsS P (Instr.extract t17_2 0) S1 fun t18_2 =>
  ReadsS P (Instr.extract t17_2 1) S1 fun t19_2 =>
  ReadsS P (Instr.extract t17_2 2) S1 fun t20_2 =>
  (pStore P 33 t3_2 t18_2 h11 fun h12 =>
  S1 h12 ∧ (Join0 (fun J6 =>
    Reads P (binS .neq 26 true t20_2 .nilIface) h12 fun t22_2 =>
    boolV t22_2 fun b7 => bcase b7 (
      Reads P (Instr.build 62 #[(0, t20_2)]) h12 fun t24_2 =>
      Reads P (Instr.makeInterface 62 t24_2) h12 fun t25_2 =>
      Runs P (vS (Instr.panic t25_2)) h12 (fun u8 h13 =>
      J6 h13) E) (
      J6 h12))
  (fun h14 =>
  Reads P (nilS t0) h14 fun t28_2 =>
  Reads P (Instr.fieldAt 57 t28_2 1) h14 fun t29_2 =>
  pStore P 3 t29_2 t19_2 h14 fun h15 =>
  pLoad P 33 t3_2 h15 fun t30_2 =>
  Reads P (Instr.build 36 #[(0, (.int .i64 1)), (1, t30_2)]) h15 fun t31_2 =>
  pStore P 36 t2 t31_2 h15 fun h16 =>
  pLoad P 36 t2 h16 fun r9 => R r9 h16))) ∧ True)) E) ∧ True)) ∧ True))) E) ∧ ((pAlloc P 33 h1 fun t3_3 h17 =>
  S1 h17 ∧ ((CallsH P 28 #[t0] h17 (fun t16_2 h18 =>
  S1 h18 ∧ ((CallsH P 119 #[t10, t14, t16_2] h18 (fun t17_3 h19 =>
  S1 h19 ∧ (ReadsS P (Instr.extract t17_3 0) S1 fun t18_3 =>
  ReadsS P (Instr.extract t17_3 1) S1 fun t19_3 =>
  ReadsS P (Instr.extract t17_3 2) S1 fun t20_3 =>
  (pStore P 33 t3_3 t18_3 h19 fun h20 =>
  S1 h20 ∧ (Join0 (fun J10 =>
    Reads P (binS .neq 26 true t20_3 .nilIface) h20 fun t22_3 =>
    boolV t22_3 fun b11 => bcase b11 (
      Reads P (Instr.build 62 #[(0, t20_3)]) h20 fun t24_3 =>
      Reads P (Instr.makeInterface 62 t24_3) h20 fun t25_3 =>
      Runs P (vS (Instr.panic t25_3)) h20 (fun u12 h21 =>
      J10 h21) E) (
      J10 h20))
  (fun h22 =>
  Reads P (nilS t0) h22 fun t28_3 =>
  Reads P (Instr.fieldAt 57 t28_3 1) h22 fun t29_3 =>
  pStore P 3 t29_3 t19_3 h22 fun h23 =>
  pLoad P 33 t3_3 h23 fun t30_3 =>
  Reads P (Instr.build 36 #[(0, (.int .i64 1)), (1, t30_3)]) h23 fun t31_3 =>
  pStore P 36 t2 t31_3 h23 fun h24 =>
  pLoad P 36 t2 h24 fun r13 => R r13 h24))) ∧ True)) E) ∧ True)) E) ∧ True)) ∧ True)
theorem C107 {E : List PanicEntry → Heap → Prop} {t0 : Value} {h : Heap} {R : Value → Heap → Prop} (hs : S107 Tryz.prog E t0 h R) : CallsH Tryz.prog 107 #[t0] h R E :=
  calls_of_vc H107 Tryz.mixed Tryz.func107 rfl (by kernel_rfl) (by kernel_rfl) (Eq.mp (show S107 Tryz.prog E t0 h R = vcFun Tryz.prog H107 E Tryz.f107.results.toList _ [t0] h R from by kernel_rfl) hs)

def H108 : Hints := { r := fun _ => none, s := fun _ => none, l := fun _ => none, d := fun _ => none }
def S108 (P : Program) (E : List PanicEntry → Heap → Prop) (t0 : Value) (h : Heap) (R : Value → Heap → Prop) : Prop :=
  pAlloc P 36 h fun t2 h1 =>
  Runs P (vS (Instr.buildSlice 29 1 #[(0, t0)])) h1 (fun t4 h2 =>
  Reads P (convert 29 9 t4) h2 fun t5 =>
  CallsH P 120 #[t5] h2 (fun t6 h3 =>
  Reads P (Instr.build 36 #[(0, (.int .i64 1)), (1, t6)]) h3 fun t7 =>
  pStore P 36 t2 t7 h3 fun h4 =>
  pLoad P 36 t2 h4 fun r1 => R r1 h4) E) E
theorem C108 {E : List PanicEntry → Heap → Prop} {t0 : Value} {h : Heap} {R : Value → Heap → Prop} (hs : S108 Tryz.prog E t0 h R) : CallsH Tryz.prog 108 #[t0] h R E :=
  calls_of_vc H108 Tryz.mixed Tryz.func108 rfl (by kernel_rfl) (by kernel_rfl) (Eq.mp (show S108 Tryz.prog E t0 h R = vcFun Tryz.prog H108 E Tryz.f108.results.toList _ [t0] h R from by kernel_rfl) hs)

def H109 : Hints := { r := fun _ => none, s := fun _ => none, l := fun _ => none, d := fun i => match i with | 1 => some (.cut 1 (.take 0 (.take 1 (.take 2 (.take 3 (.take 4 (.take 5 (.take 6 (.take 7 (.take 8 (.cut 0 (.act 9 (.cut 1 (.take 10 (.take 11 (.take 12 (.take 13 (.take 14 (.take 15 (.take 16 .done)))))))) .stop)))))))))))) | _ => none }
def S109 (P : Program) (E : List PanicEntry → Heap → Prop) (t0 : Value) (h : Heap) (R : Value → Heap → Prop) : Prop :=
  Reads P (nilS t0) h fun t8 =>
  Reads P (Instr.fieldAt 57 t8 0) h fun t9 =>
  pLoad P 29 t9 h fun t10 =>
  Reads P (nilS t0) h fun t12 =>
  Reads P (Instr.fieldAt 57 t12 1) h fun t13 =>
  pLoad P 3 t13 h fun t14 =>
  Reads P (Instr.sliceAt 29 t10 (some t14) none none) h fun t15 =>
  (CallsH P 121 #[t15, (.int .i64 10)] h (fun t16 h1 =>
  True ∧ (Reads P (Instr.extract t16 0) h1 fun t17 =>
  Reads P (Instr.extract t16 1) h1 fun t18 =>
  Reads P (Instr.extract t16 2) h1 fun t19 =>
  Reads P (nilS t0) h1 fun t21 =>
  Reads P (Instr.fieldAt 57 t21 1) h1 fun t22 =>
  pLoad P 3 t22 h1 fun t23 =>
  Reads P (binS .add 3 false t23 t18) h1 fun t25 =>
  Reads P (nilS t0) h1 fun t26 =>
  Reads P (Instr.fieldAt 57 t26 1) h1 fun t27 =>
  pStore P 3 t27 t25 h1 fun h2 =>
  Reads P (binS .lss 3 true t18 (.int .i64 1)) h2 fun t29 =>
  boolV t29 fun b1 => bcase b1 (
  R (.int .i64 (-1)) h2) (
  Reads P (binS .gtr 3 true t18 (.int .i64 3)) h2 fun t32 =>
  boolV t32 fun b2 => bcase b2 (
    R (.int .i64 (-1)) h2) (
    R t17 h2)))) E) ∧ True
theorem C109 {E : List PanicEntry → Heap → Prop} {t0 : Value} {h : Heap} {R : Value → Heap → Prop} (hs : S109 Tryz.prog E t0 h R) : CallsH Tryz.prog 109 #[t0] h R E :=
  calls_of_vc H109 Tryz.mixed Tryz.func109 rfl (by kernel_rfl) (by kernel_rfl) (Eq.mp (show S109 Tryz.prog E t0 h R = vcFun Tryz.prog H109 E Tryz.f109.results.toList _ [t0] h R from by kernel_rfl) hs)

def H110 : Hints := { r := fun _ => none, s := fun _ => none, l := fun _ => none, d := fun i => match i with | 1 => some (.cut 1 (.take 0 (.take 1 (.take 2 (.take 3 (.take 4 (.take 5 (.take 6 (.take 7 (.take 8 (.cut 0 (.act 9 (.cut 1 (.take 10 (.take 11 (.take 12 (.take 13 (.take 14 (.take 15 (.take 16 .done)))))))) .stop)))))))))))) | _ => none }
def S110 (P : Program) (E : List PanicEntry → Heap → Prop) (t0 : Value) (h : Heap) (R : Value → Heap → Prop) : Prop :=
  Reads P (nilS t0) h fun t9 =>
  Reads P (Instr.fieldAt 71 t9 0) h fun t10 =>
  pLoad P 29 t10 h fun t11 =>
  Reads P (nilS t0) h fun t13 =>
  Reads P (Instr.fieldAt 71 t13 1) h fun t14 =>
  pLoad P 3 t14 h fun t15 =>
  Reads P (Instr.sliceAt 29 t11 (some t15) none none) h fun t16 =>
  (CallsH P 122 #[t16, (.int .i64 10)] h (fun t17 h1 =>
  True ∧ (Reads P (Instr.extract t17 0) h1 fun t18 =>
  Reads P (Instr.extract t17 1) h1 fun t19 =>
  Reads P (Instr.extract t17 2) h1 fun t20 =>
  Reads P (nilS t0) h1 fun t22 =>
  Reads P (Instr.fieldAt 71 t22 1) h1 fun t23 =>
  pLoad P 3 t23 h1 fun t24 =>
  Reads P (binS .add 3 false t24 t19) h1 fun t26 =>
  Reads P (nilS t0) h1 fun t27 =>
  Reads P (Instr.fieldAt 71 t27 1) h1 fun t28 =>
  pStore P 3 t28 t26 h1 fun h2 =>
  Reads P (binS .geq 3 true t19 (.int .i64 1)) h2 fun t31 =>
  boolV t31 fun b1 => bcase b1 (
  Reads P (binS .leq 3 true t19 (.int .i64 3)) h2 fun t34 =>
  boolV t34 fun b2 => bcase b2 (
  Reads P (binS .leq 2 true t18 (.int .i64 255)) h2 fun t38 =>
  R (.tuple #[t18, t38]) h2) (
  R (.tuple #[t18, (.bool false)]) h2)) (
  R (.tuple #[t18, (.bool false)]) h2))) E) ∧ True
theorem C110 {E : List PanicEntry → Heap → Prop} {t0 : Value} {h : Heap} {R : Value → Heap → Prop} (hs : S110 Tryz.prog E t0 h R) : CallsH Tryz.prog 110 #[t0] h R E :=
  calls_of_vc H110 Tryz.mixed Tryz.func110 rfl (by kernel_rfl) (by kernel_rfl) (Eq.mp (show S110 Tryz.prog E t0 h R = vcFun Tryz.prog H110 E Tryz.f110.results.toList _ [t0] h R from by kernel_rfl) hs)

def H111 : Hints := { r := fun _ => none, s := fun _ => none, l := fun _ => none, d := fun i => match i with | 2 => some (.cut 2 (.take 0 (.take 1 (.take 3 (.act 2 (.act 4 (.act 5 (.cut 0 (.act 6 .done .stop)) .stop) (.act 5 (.act 4 (.cut 0 (.act 6 .done .stop)) .stop) .stop)) (.act 5 (.act 2 (.act 4 (.cut 0 (.act 6 .done .stop)) .stop) .stop) .stop)))))) | 19 => some (.cut 2 (.take 0 (.act 1 (.cut 0 (.act 2 (.cut 0 (.act 3 (.cut 1 (.take 4 .done)) .stop)) .stop)) .stop))) | 23 => some (.cut 2 (.take 0 (.take 2 (.act 1 (.cut 0 (.act 3 (.cut 0 (.act 4 (.cut 0 (.act 5 (.cut 1 (.take 6 .done)) .stop)) .stop)) .stop)) .stop)))) | 27 => some (.cut 2 (.take 0 (.act 1 (.act 2 (.act 3 (.cut 0 (.act 4 (.cut 0 (.act 5 (.cut 1 (.take 6 .done)) .stop)) .stop)) .stop) .stop) .stop))) | _ => none }
def S111 (P : Program) (E : List PanicEntry → Heap → Prop) (t0 : Value) (h : Heap) (R : Value → Heap → Prop) : Prop :=
  pAlloc P 33 h fun t2 h1 =>
  CallsH P 94 #[(.int .u8 97), (.int .u8 122)] h1 (fun t9 h2 =>
  CallsH P 94 #[(.int .u8 65), (.int .u8 90)] h2 (fun t10 h3 =>
  CallsH P 94 #[(.int .u8 48), (.int .u8 57)] h3 (fun t11 h4 =>
  CallsH P 94 #[(.int .u8 33), (.int .u8 126)] h4 (fun t12 h5 =>
  pAlloc P 33 h5 fun t4 h6 =>
  pAlloc P 33 h6 fun t5 h7 =>
  pAlloc P 33 h7 fun t6 h8 =>
  pAlloc P 33 h8 fun t7 h9 =>
  pStore P 33 t4 t9 h9 fun h10 =>
  pStore P 33 t5 t10 h10 fun h11 =>
  pStore P 33 t6 t11 h11 fun h12 =>
  pStore P 33 t7 t12 h12 fun h13 =>
  Stable h13 fun S1 =>
  pLoadS P 33 t4 S1 fun t13 =>
  pLoadS P 33 t5 S1 fun t14 =>
  pLoadS P 33 t6 S1 fun t16 =>
  (CallsH P 93 #[t13, t14] h13 (fun t15 h14 =>
  S1 h14 ∧ ((CallsH P 93 #[t15, t16] h14 (fun t17 h15 =>
  S1 h15 ∧ ((pAlloc P 33 h15 fun t8 h16 =>
  S1 h16 ∧ ((pStore P 33 t8 t17 h16 fun h17 =>
  True ∧ (Reads P (binS .eql 9 true t0 (str [97, 108, 112, 104, 97])) h17 fun t20 =>
  boolV t20 fun b2 => bcase b2 (
    pLoad P 33 t4 h17 fun t21 =>
    pLoad P 33 t5 h17 fun t22 =>
    CallsH P 93 #[t21, t22] h17 (fun t23 h18 =>
    pStore P 33 t2 t23 h18 fun h19 =>
    pLoad P 33 t2 h19 fun r3 => R (.tuple #[r3, (.bool true)]) h19) E) (
    Reads P (binS .eql 9 true t0 (str [100, 105, 103, 105, 116])) h17 fun t25 =>
    boolV t25 fun b4 => bcase b4 (
      pLoad P 33 t6 h17 fun t26 =>
      pStore P 33 t2 t26 h17 fun h20 =>
      pLoad P 33 t2 h20 fun r5 => R (.tuple #[r5, (.bool true)]) h20) (
      Reads P (binS .eql 9 true t0 (str [97, 108, 110, 117, 109])) h17 fun t28 =>
      boolV t28 fun b6 => bcase b6 (
        pLoad P 33 t8 h17 fun t29 =>
        pStore P 33 t2 t29 h17 fun h21 =>
        pLoad P 33 t2 h21 fun r7 => R (.tuple #[r7, (.bool true)]) h21) (
        Reads P (binS .eql 9 true t0 (str [117, 112, 112, 101, 114])) h17 fun t31 =>
        boolV t31 fun b8 => bcase b8 (
          pLoad P 33 t5 h17 fun t32 =>
          pStore P 33 t2 t32 h17 fun h22 =>
          pLoad P 33 t2 h22 fun r9 => R (.tuple #[r9, (.bool true)]) h22) (
          Reads P (binS .eql 9 true t0 (str [108, 111, 119, 101, 114])) h17 fun t34 =>
          boolV t34 fun b10 => bcase b10 (
            pLoad P 33 t4 h17 fun t35 =>
            pStore P 33 t2 t35 h17 fun h23 =>
            pLoad P 33 t2 h23 fun r11 => R (.tuple #[r11, (.bool true)]) h23) (
            Reads P (binS .eql 9 true t0 (str [115, 112, 97, 99, 101])) h17 fun t37 =>
            boolV t37 fun b12 => bcase b12 (
              CallsH P 94 #[(.int .u8 9), (.int .u8 13)] h17 (fun t38 h24 =>
              CallsH P 94 #[(.int .u8 32), (.int .u8 32)] h24 (fun t39 h25 =>
              CallsH P 93 #[t38, t39] h25 (fun t40 h26 =>
              pStore P 33 t2 t40 h26 fun h27 =>
              pLoad P 33 t2 h27 fun r13 => R (.tuple #[r13, (.bool true)]) h27) E) E) E) (
              Reads P (binS .eql 9 true t0 (str [98, 108, 97, 110, 107])) h17 fun t42 =>
              boolV t42 fun b14 => bcase b14 (
                CallsH P 94 #[(.int .u8 9), (.int .u8 9)] h17 (fun t43 h28 =>
                CallsH P 94 #[(.int .u8 32), (.int .u8 32)] h28 (fun t44 h29 =>
                CallsH P 93 #[t43, t44] h29 (fun t45 h30 =>
                pStore P 33 t2 t45 h30 fun h31 =>
                pLoad P 33 t2 h31 fun r15 => R (.tuple #[r15, (.bool true)]) h31) E) E) E) (
                Reads P (binS .eql 9 true t0 (str [112, 114, 105, 110, 116])) h17 fun t47 =>
                boolV t47 fun b16 => bcase b16 (
                  Stable h17 fun S17 =>
                  pLoadS P 33 t7 S17 fun t48 =>
                  (CallsH P 94 #[(.int .u8 32), (.int .u8 32)] h17 (fun t49 h32 =>
                  S17 h32 ∧ ((CallsH P 93 #[t48, t49] h32 (fun t50 h33 =>
                  True ∧ ((pStore P 33 t2 t50 h33 fun h34 =>
                  True ∧ (pLoad P 33 t2 h34 fun r18 => R (.tuple #[r18, (.bool true)]) h34)) ∧ True)) E) ∧ True)) E) ∧ True) (
                  Reads P (binS .eql 9 true t0 (str [103, 114, 97, 112, 104])) h17 fun t52 =>
                  boolV t52 fun b19 => bcase b19 (
                    pLoad P 33 t7 h17 fun t53 =>
                    pStore P 33 t2 t53 h17 fun h35 =>
                    pLoad P 33 t2 h35 fun r20 => R (.tuple #[r20, (.bool true)]) h35) (
                    Reads P (binS .eql 9 true t0 (str [112, 117, 110, 99, 116])) h17 fun t55 =>
                    boolV t55 fun b21 => bcase b21 (
                      Stable h17 fun S22 =>
                      pLoadS P 33 t7 S22 fun t56 =>
                      pLoadS P 33 t8 S22 fun t58 =>
                      (CallsH P 46 #[t56] h17 (fun t57 h36 =>
                      S22 h36 ∧ ((CallsH P 93 #[t57, t58] h36 (fun t59 h37 =>
                      True ∧ ((CallsH P 46 #[t59] h37 (fun t60 h38 =>
                      True ∧ ((pStore P 33 t2 t60 h38 fun h39 =>
                      True ∧ (pLoad P 33 t2 h39 fun r23 => R (.tuple #[r23, (.bool true)]) h39)) ∧ True)) E) ∧ True)) E) ∧ True)) E) ∧ True) (
                      Reads P (binS .eql 9 true t0 (str [99, 110, 116, 114, 108])) h17 fun t62 =>
                      boolV t62 fun b24 => bcase b24 (
                        CallsH P 94 #[(.int .u8 0), (.int .u8 31)] h17 (fun t63 h40 =>
                        CallsH P 94 #[(.int .u8 127), (.int .u8 127)] h40 (fun t64 h41 =>
                        CallsH P 93 #[t63, t64] h41 (fun t65 h42 =>
                        pStore P 33 t2 t65 h42 fun h43 =>
                        pLoad P 33 t2 h43 fun r25 => R (.tuple #[r25, (.bool true)]) h43) E) E) E) (
                        Reads P (binS .eql 9 true t0 (str [120, 100, 105, 103, 105, 116])) h17 fun t67 =>
                        boolV t67 fun b26 => bcase b26 (
                          Stable h17 fun S27 =>
                          pLoadS P 33 t6 S27 fun t68 =>
                          (CallsH P 94 #[(.int .u8 97), (.int .u8 102)] h17 (fun t69 h44 =>
                          S27 h44 ∧ ((CallsH P 94 #[(.int .u8 65), (.int .u8 70)] h44 (fun t70 h45 =>
                          S27 h45 ∧ ((CallsH P 93 #[t69, t70] h45 (fun t71 h46 =>
                          S27 h46 ∧ ((CallsH P 93 #[t68, t71] h46 (fun t72 h47 =>
                          True ∧ ((pStore P 33 t2 t72 h47 fun h48 =>
                          True ∧ (pLoad P 33 t2 h48 fun r28 => R (.tuple #[r28, (.bool true)]) h48)) ∧ True)) E) ∧ True)) E) ∧ True)) E) ∧ True)) E) ∧ True) (
                          Reads P (Instr.build 33 #[]) h17 fun t73 =>
  pStore P 33 t2 t73 h17 fun h49 =>
  pLoad P 33 t2 h49 fun r29 => R (.tuple #[r29, (.bool false)]) h49)))))))))))))) ∧ True)) ∧ True)) E) ∧ ((pAlloc P 33 h14 fun t8_2 h50 =>
  S1 h50 ∧ ((CallsH P 93 #[t15, t16] h50 (fun t17_2 h51 =>
  S1 h51 ∧ ((pStore P 33 t8_2 t17_2 h51 fun h52 =>
  True ∧ (Reads P (binS .eql 9 true t0 (str [97, 108, 112, 104, 97])) h52 fun t20_2 =>
  boolV t20_2 fun b30 => bcase b30 (
    pLoad P 33 t4 h52 fun t21_2 =>
    pLoad P 33 t5 h52 fun t22_2 =>
    CallsH P 93 #[t21_2, t22_2] h52 (fun t23_2 h53 =>
    pStore P 33 t2 t23_2 h53 fun h54 =>
    pLoad P 33 t2 h54 fun r31 => R (.tuple #[r31, (.bool true)]) h54) E) (
    Reads P (binS .eql 9 true t0 (str [100, 105, 103, 105, 116])) h52 fun t25_2 =>
    boolV t25_2 fun b32 => bcase b32 (
      pLoad P 33 t6 h52 fun t26_2 =>
      pStore P 33 t2 t26_2 h52 fun h55 =>
      pLoad P 33 t2 h55 fun r33 => R (.tuple #[r33, (.bool true)]) h55) (
      Reads P (binS .eql 9 true t0 (str [97, 108, 110, 117, 109])) h52 fun t28_2 =>
      boolV t28_2 fun b34 => bcase b34 (
        pLoad P 33 t8_2 h52 fun t29_2 =>
        pStore P 33 t2 t29_2 h52 fun h56 =>
        pLoad P 33 t2 h56 fun r35 => R (.tuple #[r35, (.bool true)]) h56) (
        Reads P (binS .eql 9 true t0 (str [117, 112, 112, 101, 114])) h52 fun t31_2 =>
        boolV t31_2 fun b36 => bcase b36 (
          pLoad P 33 t5 h52 fun t32_2 =>
          pStore P 33 t2 t32_2 h52 fun h57 =>
          pLoad P 33 t2 h57 fun r37 => R (.tuple #[r37, (.bool true)]) h57) (
          Reads P (binS .eql 9 true t0 (str [108, 111, 119, 101, 114])) h52 fun t34_2 =>
          boolV t34_2 fun b38 => bcase b38 (
            pLoad P 33 t4 h52 fun t35_2 =>
            pStore P 33 t2 t35_2 h52 fun h58 =>
            pLoad P 33 t2 h58 fun r39 => R (.tuple #[r39, (.bool true)]) h58) (
            Reads P (binS .eql 9 true t0 (str [115, 112, 97, 99, 101])) h52 fun t37_2 =>
            boolV t37_2 fun b40 => bcase b40 (
              CallsH P 94 #[(.int .u8 9), (.int .u8 13)] h52 (fun t38_2 h59 =>
              CallsH P 94 #[(.int .u8 32), (.int .u8 32)] h59 (fun t39_2 h60 =>
              CallsH P 93 #[t38_2, t39_2] h60 (fun t40_2 h61 =>
              pStore P 33 t2 t40_2 h61 fun h62 =>
              pLoad P 33 t2 h62 fun r41 => R (.tuple #[r41, (.bool true)]) h62) E) E) E) (
              Reads P (binS .eql 9 true t0 (str [98, 108, 97, 110, 107])) h52 fun t42_2 =>
              boolV t42_2 fun b42 => bcase b42 (
                CallsH P 94 #[(.int .u8 9), (.int .u8 9)] h52 (fun t43_2 h63 =>
                CallsH P 94 #[(.int .u8 32), (.int .u8 32)] h63 (fun t44_2 h64 =>
                CallsH P 93 #[t43_2, t44_2] h64 (fun t45_2 h65 =>
                pStore P 33 t2 t45_2 h65 fun h66 =>
                pLoad P 33 t2 h66 fun r43 => R (.tuple #[r43, (.bool true)]) h66) E) E) E) (
                Reads P (binS .eql 9 true t0 (str [112, 114, 105, 110, 116])) h52 fun t47_2 =>
                boolV t47_2 fun b44 => bcase b44 (
                  Stable h52 fun S45 =>
                  pLoadS P 33 t7 S45 fun t48_2 =>
                  (CallsH P 94 #[(.int .u8 32), (.int .u8 32)] h52 (fun t49_2 h67 =>
                  S45 h67 ∧ ((CallsH P 93 #[t48_2, t49_2] h67 (fun t50_2 h68 =>
                  True ∧ ((pStore P 33 t2 t50_2 h68 fun h69 =>
                  True ∧ (pLoad P 33 t2 h69 fun r46 => R (.tuple #[r46, (.bool true)]) h69)) ∧ True)) E) ∧ True)) E) ∧ True) (
                  Reads P (binS .eql 9 true t0 (str [103, 114, 97, 112, 104])) h52 fun t52_2 =>
                  boolV t52_2 fun b47 => bcase b47 (
                    pLoad P 33 t7 h52 fun t53_2 =>
                    pStore P 33 t2 t53_2 h52 fun h70 =>
                    pLoad P 33 t2 h70 fun r48 => R (.tuple #[r48, (.bool true)]) h70) (
                    Reads P (binS .eql 9 true t0 (str [112, 117, 110, 99, 116])) h52 fun t55_2 =>
                    boolV t55_2 fun b49 => bcase b49 (
                      Stable h52 fun S50 =>
                      pLoadS P 33 t7 S50 fun t56_2 =>
                      pLoadS P 33 t8_2 S50 fun t58_2 =>
                      (CallsH P 46 #[t56_2] h52 (fun t57_2 h71 =>
                      S50 h71 ∧ ((CallsH P 93 #[t57_2, t58_2] h71 (fun t59_2 h72 =>
                      True ∧ ((CallsH P 46 #[t59_2] h72 (fun t60_2 h73 =>
                      True ∧ ((pStore P 33 t2 t60_2 h73 fun h74 =>
                      True ∧ (pLoad P 33 t2 h74 fun r51 => R (.tuple #[r51, (.bool true)]) h74)) ∧ True)) E) ∧ True)) E) ∧ True)) E) ∧ True) (
                      Reads P (binS .eql 9 true t0 (str [99, 110, 116, 114, 108])) h52 fun t62_2 =>
                      boolV t62_2 fun b52 => bcase b52 (
                        CallsH P 94 #[(.int .u8 0), (.int .u8 31)] h52 (fun t63_2 h75 =>
                        CallsH P 94 #[(.int .u8 127), (.int .u8 127)] h75 (fun t64_2 h76 =>
                        CallsH P 93 #[t63_2, t64_2] h76 (fun t65_2 h77 =>
                        pStore P 33 t2 t65_2 h77 fun h78 =>
                        pLoad P 33 t2 h78 fun r53 => R (.tuple #[r53, (.bool true)]) h78) E) E) E) (
                        Reads P (binS .eql 9 true t0 (str [120, 100, 105, 103, 105, 116])) h52 fun t67_2 =>
                        boolV t67_2 fun b54 => bcase b54 (
                          Stable h52 fun S55 =>
                          pLoadS P 33 t6 S55 fun t68_2 =>
                          (CallsH P 94 #[(.int .u8 97), (.int .u8 102)] h52 (fun t69_2 h79 =>
                          S55 h79 ∧ ((CallsH P 94 #[(.int .u8 65), (.int .u8 70)] h79 (fun t70_2 h80 =>
                          S55 h80 ∧ ((CallsH P 93 #[t69_2, t70_2] h80 (fun t71_2 h81 =>
                          S55 h81 ∧ ((CallsH P 93 #[t68_2, t71_2] h81 (fun t72_2 h82 =>
                          True ∧ ((pStore P 33 t2 t72_2 h82 fun h83 =>
                          True ∧ (pLoad P 33 t2 h83 fun r56 => R (.tuple #[r56, (.bool true)]) h83)) ∧ True)) E) ∧ True)) E) ∧ True)) E) ∧ True)) E) ∧ True) (
                          Reads P (Instr.build 33 #[]) h52 fun t73_2 =>
  pStore P 33 t2 t73_2 h52 fun h84 =>
  pLoad P 33 t2 h84 fun r57 => R (.tuple #[r57, (.bool false)]) h84)))))))))))))) ∧ True)) E) ∧ True)) ∧ True))) E) ∧ ((pAlloc P 33 h13 fun t8_3 h85 =>
  S1 h85 ∧ ((CallsH P 93 #[t13, t14] h85 (fun t15_2 h86 =>
  S1 h86 ∧ ((CallsH P 93 #[t15_2, t16] h86 (fun t17_3 h87 =>
  S1 h87 ∧ ((pStore P 33 t8_3 t17_3 h87 fun h88 =>
  True ∧ (Reads P (binS .eql 9 true t0 (str [97, 108, 112, 104, 97])) h88 fun t20_3 =>
  boolV t20_3 fun b58 => bcase b58 (
    pLoad P 33 t4 h88 fun t21_3 =>
    pLoad P 33 t5 h88 fun t22_3 =>
    CallsH P 93 #[t21_3, t22_3] h88 (fun t23_3 h89 =>
    pStore P 33 t2 t23_3 h89 fun h90 =>
    pLoad P 33 t2 h90 fun r59 => R (.tuple #[r59, (.bool true)]) h90) E) (
    Reads P (binS .eql 9 true t0 (str [100, 105, 103, 105, 116])) h88 fun t25_3 =>
    boolV t25_3 fun b60 => bcase b60 (
      pLoad P 33 t6 h88 fun t26_3 =>
      pStore P 33 t2 t26_3 h88 fun h91 =>
      pLoad P 33 t2 h91 fun r61 => R (.tuple #[r61, (.bool true)]) h91) (
      Reads P (binS .eql 9 true t0 (str [97, 108, 110, 117, 109])) h88 fun t28_3 =>
      boolV t28_3 fun b62 => bcase b62 (
        pLoad P 33 t8_3 h88 fun t29_3 =>
        pStore P 33 t2 t29_3 h88 fun h92 =>
        pLoad P 33 t2 h92 fun r63 => R (.tuple #[r63, (.bool true)]) h92) (
        Reads P (binS .eql 9 true t0 (str [117, 112, 112, 101, 114])) h88 fun t31_3 =>
        boolV t31_3 fun b64 => bcase b64 (
          pLoad P 33 t5 h88 fun t32_3 =>
          pStore P 33 t2 t32_3 h88 fun h93 =>
          pLoad P 33 t2 h93 fun r65 => R (.tuple #[r65, (.bool true)]) h93) (
          Reads P (binS .eql 9 true t0 (str [108, 111, 119, 101, 114])) h88 fun t34_3 =>
          boolV t34_3 fun b66 => bcase b66 (
            pLoad P 33 t4 h88 fun t35_3 =>
            pStore P 33 t2 t35_3 h88 fun h94 =>
            pLoad P 33 t2 h94 fun r67 => R (.tuple #[r67, (.bool true)]) h94) (
            Reads P (binS .eql 9 true t0 (str [115, 112, 97, 99, 101])) h88 fun t37_3 =>
            boolV t37_3 fun b68 => bcase b68 (
              CallsH P 94 #[(.int .u8 9), (.int .u8 13)] h88 (fun t38_3 h95 =>
              CallsH P 94 #[(.int .u8 32), (.int .u8 32)] h95 (fun t39_3 h96 =>
              CallsH P 93 #[t38_3, t39_3] h96 (fun t40_3 h97 =>
              pStore P 33 t2 t40_3 h97 fun h98 =>
              pLoad P 33 t2 h98 fun r69 => R (.tuple #[r69, (.bool true)]) h98) E) E) E) (
              Reads P (binS .eql 9 true t0 (str [98, 108, 97, 110, 107])) h88 fun t42_3 =>
              boolV t42_3 fun b70 => bcase b70 (
                CallsH P 94 #[(.int .u8 9), (.int .u8 9)] h88 (fun t43_3 h99 =>
                CallsH P 94 #[(.int .u8 32), (.int .u8 32)] h99 (fun t44_3 h100 =>
                CallsH P 93 #[t43_3, t44_3] h100 (fun t45_3 h101 =>
                pStore P 33 t2 t45_3 h101 fun h102 =>
                pLoad P 33 t2 h102 fun r71 => R (.tuple #[r71, (.bool true)]) h102) E) E) E) (
                Reads P (binS .eql 9 true t0 (str [112, 114, 105, 110, 116])) h88 fun t47_3 =>
                boolV t47_3 fun b72 => bcase b72 (
                  Stable h88 fun S73 =>
                  pLoadS P 33 t7 S73 fun t48_3 =>
                  (CallsH P 94 #[(.int .u8 32), (.int .u8 32)] h88 (fun t49_3 h103 =>
                  S73 h103 ∧ ((CallsH P 93 #[t48_3, t49_3] h103 (fun t50_3 h104 =>
                  True ∧ ((pStore P 33 t2 t50_3 h104 fun h105 =>
                  True ∧ (pLoad P 33 t2 h105 fun r74 => R (.tuple #[r74, (.bool true)]) h105)) ∧ True)) E) ∧ True)) E) ∧ True) (
                  Reads P (binS .eql 9 true t0 (str [103, 114, 97, 112, 104])) h88 fun t52_3 =>
                  boolV t52_3 fun b75 => bcase b75 (
                    pLoad P 33 t7 h88 fun t53_3 =>
                    pStore P 33 t2 t53_3 h88 fun h106 =>
                    pLoad P 33 t2 h106 fun r76 => R (.tuple #[r76, (.bool true)]) h106) (
                    Reads P (binS .eql 9 true t0 (str [112, 117, 110, 99, 116])) h88 fun t55_3 =>
                    boolV t55_3 fun b77 => bcase b77 (
                      Stable h88 fun S78 =>
                      pLoadS P 33 t7 S78 fun t56_3 =>
                      pLoadS P 33 t8_3 S78 fun t58_3 =>
                      (CallsH P 46 #[t56_3] h88 (fun t57_3 h107 =>
                      S78 h107 ∧ ((CallsH P 93 #[t57_3, t58_3] h107 (fun t59_3 h108 =>
                      True ∧ ((CallsH P 46 #[t59_3] h108 (fun t60_3 h109 =>
                      True ∧ ((pStore P 33 t2 t60_3 h109 fun h110 =>
                      True ∧ (pLoad P 33 t2 h110 fun r79 => R (.tuple #[r79, (.bool true)]) h110)) ∧ True)) E) ∧ True)) E) ∧ True)) E) ∧ True) (
                      Reads P (binS .eql 9 true t0 (str [99, 110, 116, 114, 108])) h88 fun t62_3 =>
                      boolV t62_3 fun b80 => bcase b80 (
                        CallsH P 94 #[(.int .u8 0), (.int .u8 31)] h88 (fun t63_3 h111 =>
                        CallsH P 94 #[(.int .u8 127), (.int .u8 127)] h111 (fun t64_3 h112 =>
                        CallsH P 93 #[t63_3, t64_3] h112 (fun t65_3 h113 =>
                        pStore P 33 t2 t65_3 h113 fun h114 =>
                        pLoad P 33 t2 h114 fun r81 => R (.tuple #[r81, (.bool true)]) h114) E) E) E) (
                        Reads P (binS .eql 9 true t0 (str [120, 100, 105, 103, 105, 116])) h88 fun t67_3 =>
                        boolV t67_3 fun b82 => bcase b82 (
                          Stable h88 fun S83 =>
                          pLoadS P 33 t6 S83 fun t68_3 =>
                          (CallsH P 94 #[(.int .u8 97), (.int .u8 102)] h88 (fun t69_3 h115 =>
                          S83 h115 ∧ ((CallsH P 94 #[(.int .u8 65), (.int .u8 70)] h115 (fun t70_3 h116 =>
                          S83 h116 ∧ ((CallsH P 93 #[t69_3, t70_3] h116 (fun t71_3 h117 =>
                          S83 h117 ∧ ((CallsH P 93 #[t68_3, t71_3] h117 (fun t72_3 h118 =>
                          True ∧ ((pStore P 33 t2 t72_3 h118 fun h119 =>
                          True ∧ (pLoad P 33 t2 h119 fun r84 => R (.tuple #[r84, (.bool true)]) h119)) ∧ True)) E) ∧ True)) E) ∧ True)) E) ∧ True)) E) ∧ True) (
                          Reads P (Instr.build 33 #[]) h88 fun t73_3 =>
  pStore P 33 t2 t73_3 h88 fun h120 =>
  pLoad P 33 t2 h120 fun r85 => R (.tuple #[r85, (.bool false)]) h120)))))))))))))) ∧ True)) E) ∧ True)) E) ∧ True)) ∧ True)) E) E) E) E
theorem C111 {E : List PanicEntry → Heap → Prop} {t0 : Value} {h : Heap} {R : Value → Heap → Prop} (hs : S111 Tryz.prog E t0 h R) : CallsH Tryz.prog 111 #[t0] h R E :=
  calls_of_vc H111 Tryz.mixed Tryz.func111 rfl (by kernel_rfl) (by kernel_rfl) (Eq.mp (show S111 Tryz.prog E t0 h R = vcFun Tryz.prog H111 E Tryz.f111.results.toList _ [t0] h R from by kernel_rfl) hs)

def H117 : Hints := { r := fun _ => none, s := fun _ => none, l := fun _ => none, d := fun _ => none }
def S117 (P : Program) (E : List PanicEntry → Heap → Prop) (t0 : Value) (h : Heap) (R : Value → Heap → Prop) : Prop :=
  CallsH P 81 #[t0, (str [42])] h (fun t4 h1 =>
  boolV t4 fun b1 => bcase b1 (
  R (.bool true) h1) (
  CallsH P 81 #[t0, (str [43])] h1 (fun t7 h2 =>
  boolV t7 fun b2 => bcase b2 (
  R (.bool true) h2) (
  CallsH P 81 #[t0, (str [63])] h2 (fun t11 h3 =>
  boolV t11 fun b3 => bcase b3 (
  R (.bool true) h3) (
  CallsH P 81 #[t0, (str [123])] h3 (fun t15 h4 =>
  R t15 h4) E)) E)) E)) E
theorem C117 {E : List PanicEntry → Heap → Prop} {t0 : Value} {h : Heap} {R : Value → Heap → Prop} (hs : S117 Tryz.prog E t0 h R) : CallsH Tryz.prog 117 #[t0] h R E :=
  calls_of_vc H117 Tryz.mixed Tryz.func117 rfl (by kernel_rfl) (by kernel_rfl) (Eq.mp (show S117 Tryz.prog E t0 h R = vcFun Tryz.prog H117 E Tryz.f117.results.toList _ [t0] h R from by kernel_rfl) hs)

def H118 : Hints := { r := fun _ => none, s := fun _ => none, l := fun _ => none, d := fun _ => none }
def S118 (P : Program) (E : List PanicEntry → Heap → Prop) (t0 t1 : Value) (h : Heap) (R : Value → Heap → Prop) : Prop :=
  pAlloc P 36 h fun t4 h1 =>
  CallsH P 117 #[t0] h1 (fun t6 h2 =>
  boolV t6 fun b1 => bcase b1 (
    Reads P (nilS t0) h2 fun t9 =>
    Reads P (Instr.fieldAt 57 t9 1) h2 fun t10 =>
    pLoad P 3 t10 h2 fun t11 =>
    CallsH P 58 #[t0, (.int .i64 3), t11] h2 (fun t12 h3 =>
    Reads P (Instr.build 36 #[(0, t1)]) h3 fun t14 =>
  pStore P 36 t4 t14 h3 fun h4 =>
  pLoad P 36 t4 h4 fun r2 => R r2 h4) E) (
    Reads P (Instr.build 36 #[(0, t1)]) h2 fun t14_2 =>
  pStore P 36 t4 t14_2 h2 fun h5 =>
  pLoad P 36 t4 h5 fun r3 => R r3 h5)) E
theorem C118 {E : List PanicEntry → Heap → Prop} {t0 t1 : Value} {h : Heap} {R : Value → Heap → Prop} (hs : S118 Tryz.prog E t0 t1 h R) : CallsH Tryz.prog 118 #[t0, t1] h R E :=
  calls_of_vc H118 Tryz.mixed Tryz.func118 rfl (by kernel_rfl) (by kernel_rfl) (Eq.mp (show S118 Tryz.prog E t0 t1 h R = vcFun Tryz.prog H118 E Tryz.f118.results.toList _ [t0, t1] h R from by kernel_rfl) hs)

def H119 : Hints := { r := fun _ => none, s := fun i => match i with | 3 => some [36] | _ => none, l := fun _ => none, d := fun i => match i with | 7 => some (.cut 2 (.take 0 (.take 1 (.take 2 (.take 3 (.take 4 (.act 5 (.cut 1 (.take 6 (.take 7 .done))) .stop))))))) | _ => none }
def S119 (P : Program) (E : List PanicEntry → Heap → Prop) (t0 t1 t2 : Value) (h : Heap) (R : Value → Heap → Prop) : Prop :=
  pAlloc P 33 h fun t6 h1 =>
  Reads P (Instr.build 177 #[(0, t0), (1, t1), (2, t2)]) h1 fun t15 =>
  pNew 177 t15 h1 fun t16 h2 =>
  Join1 (fun J1 =>
    Reads P (binS .lss 3 true t1 (.int .i64 0)) h2 fun t18 =>
    boolV t18 fun b2 => bcase b2 (
    (undef = undef ∧ ((undef = undef ∧ ((undef = undef ∧ ((undef = undef ∧ (J1 (.bool true) h2))))))))) (
    Reads P (builtinS .len #[29] 3 #[t0]) h2 fun t22 =>
    Reads P (binS .gtr 3 false t1 t22) h2 fun t23 =>
    boolV t23 fun b3 => bcase b3 (
    (undef = undef ∧ ((undef = undef ∧ ((undef = undef ∧ ((undef = undef ∧ (J1 (.bool true) h2))))))))) (
    Reads P (binS .neq 3 true t2 (.int .i64 2)) h2 fun t27 =>
    boolV t27 fun b4 => bcase b4 (
    Reads P (binS .neq 3 true t2 (.int .i64 3)) h2 fun t30 =>
    boolV t30 fun b5 => bcase b5 (
    Reads P (binS .neq 3 true t2 (.int .i64 4)) h2 fun t34 =>
    J1 t34 h2) (
    J1 (.bool false) h2)) (
    J1 (.bool false) h2))))
  (fun t36 h3 =>
  boolV t36 fun b6 => bcase b6 (
    Reads P (Instr.build 33 #[]) h3 fun t37 =>
    CallsH P 128 #[t16, (.int .i64 1), (.int .i64 0)] h3 (fun t39 h4 =>
    pStore P 33 t6 t37 h4 fun h5 =>
    pLoad P 33 t6 h5 fun r7 => R (.tuple #[r7, (.int .i64 0), t39]) h5) E) (
    CallsH P 129 #[t16] h3 (fun t42 h6 =>
  Reads P (Instr.extract t42 0) h6 fun t43 =>
  Reads P (Instr.extract t42 1) h6 fun t44 =>
  pAlloc P 33 h6 fun t10 h7 =>
  pStore P 33 t10 t43 h7 fun h8 =>
  Reads P (binS .neq 26 true t44 .nilIface) h8 fun t46 =>
  boolV t46 fun b8 => bcase b8 (
    Reads P (Instr.build 33 #[]) h8 fun t47 =>
    pStore P 33 t6 t47 h8 fun h9 =>
    pLoad P 33 t6 h9 fun r9 => R (.tuple #[r9, (.int .i64 0), t44]) h9) (
    Stable h8 fun S10 =>
  pLoadS P 33 t10 S10 fun t49 =>
  ReadsS P (nilS t16) S10 fun t51 =>
  ReadsS P (Instr.fieldAt 177 t51 1) S10 fun t52 =>
  pLoadS P 3 t52 S10 fun t53 =>
  (pStore P 33 t6 t49 h8 fun h10 =>
  S10 h10 ∧ (pLoad P 33 t6 h10 fun r11 => R (.tuple #[r11, t53, .nilIface]) h10)) ∧ True)) E))
theorem C119 {E : List PanicEntry → Heap → Prop} {t0 t1 t2 : Value} {h : Heap} {R : Value → Heap → Prop} (hs : S119 Tryz.prog E t0 t1 t2 h R) : CallsH Tryz.prog 119 #[t0, t1, t2] h R E :=
  calls_of_vc H119 Tryz.mixed Tryz.func119 rfl (by kernel_rfl) (by kernel_rfl) (Eq.mp (show S119 Tryz.prog E t0 t1 t2 h R = vcFun Tryz.prog H119 E Tryz.f119.results.toList _ [t0, t1, t2] h R from by kernel_rfl) hs)

def H120 : Hints := { r := fun _ => none, s := fun _ => none, l := fun i => match i with | 3 => some [7] | _ => none, d := fun _ => none }
def S120 (P : Program) (E : List PanicEntry → Heap → Prop) (t0 : Value) (h : Heap) (R : Value → Heap → Prop) : Prop :=
  pAlloc P 33 h fun t2 h1 =>
  pAlloc P 33 h1 fun t3 h2 =>
  Reads P (builtinS .len #[9] 3 #[t0]) h2 fun t6 =>
  Loop1 (.int .i64 0) h2 (fun C1 t7 h3 =>
    Reads P (binS .lss 3 false t7 t6) h3 fun t8 =>
    boolV t8 fun b2 => bcase b2 (
      Reads P (Instr.index 9 t0 t7) h3 fun t12 =>
    CallsH P 130 #[t3, t12] h3 (fun t13 h4 =>
    Reads P (binS .add 3 true t7 (.int .i64 1)) h4 fun t14 =>
    C1 t14 h4) E) (
      pLoad P 33 t3 h3 fun t15 =>
  pStore P 33 t2 t15 h3 fun h5 =>
  pLoad P 33 t2 h5 fun r3 => R r3 h5))
theorem C120 {E : List PanicEntry → Heap → Prop} {t0 : Value} {h : Heap} {R : Value → Heap → Prop} (hs : S120 Tryz.prog E t0 h R) : CallsH Tryz.prog 120 #[t0] h R E :=
  calls_of_vc H120 Tryz.mixed Tryz.func120 rfl (by kernel_rfl) (by kernel_rfl) (Eq.mp (show S120 Tryz.prog E t0 h R = vcFun Tryz.prog H120 E Tryz.f120.results.toList _ [t0] h R from by kernel_rfl) hs)

def H121 : Hints := { r := fun _ => none, s := fun i => match i with | 3 => some [] | 5 => some [] | _ => none, l := fun i => match i with | 4 => some [7, 8, 9] | _ => none, d := fun _ => none }
def S121 (P : Program) (E : List PanicEntry → Heap → Prop) (t0 t1 : Value) (h : Heap) (R : Value → Heap → Prop) : Prop :=
  Join0 (fun J1 =>
    Reads P (binS .lss 3 true t1 (.int .i64 2)) h fun t12 =>
    boolV t12 fun b2 => bcase b2 (
    R (.tuple #[(.int .i64 0), (.int .i64 0), (.bool false)]) h) (
    Reads P (binS .gtr 3 true t1 (.int .i64 16)) h fun t15 =>
    boolV t15 fun b3 => bcase b3 (
      R (.tuple #[(.int .i64 0), (.int .i64 0), (.bool false)]) h) (
      J1 h)))
  (fun h1 =>
  Loop3 (.int .i64 0) (.int .i64 0) (.bool false) h1 (fun C4 t7 t8 t9 h2 =>
    Join0 (fun J5 =>
      Reads P (builtinS .len #[29] 3 #[t0]) h2 fun t19 =>
      Reads P (binS .lss 3 false t8 t19) h2 fun t20 =>
      boolV t20 fun b6 => bcase b6 (
      Reads P (Instr.indexAt 29 t0 t8) h2 fun t24 =>
      pLoad P 5 t24 h2 fun t25 =>
      CallsH P 131 #[t25] h2 (fun t26 h3 =>
      Reads P (binS .lss 3 false t26 t1) h3 fun t28 =>
      boolV t28 fun b7 => bcase b7 (
        J5 h3) (
        R (.tuple #[t7, t8, t9]) h3)) E) (
      R (.tuple #[t7, t8, t9]) h2))
    (fun h4 =>
    Reads P (Instr.indexAt 29 t0 t8) h4 fun t32 =>
    pLoad P 5 t32 h4 fun t33 =>
    CallsH P 131 #[t33] h4 (fun t34 h5 =>
    boolV t9 fun b8 => bcase b8 (
    Reads P (binS .add 3 true t8 (.int .i64 1)) h5 fun t50 =>
    C4 (.int .i64 9223372036854775807) t50 (.bool true) h5) (
    Reads P (binS .sub 2 true (.int .i64 9223372036854775807) t34) h5 fun t39 =>
    Reads P (binS .quo 2 false t39 t1) h5 fun t41 =>
    Reads P (binS .gtr 2 false t7 t41) h5 fun t42 =>
    boolV t42 fun b9 => bcase b9 (
      Reads P (binS .add 3 true t8 (.int .i64 1)) h5 fun t50_2 =>
    C4 (.int .i64 9223372036854775807) t50_2 (.bool true) h5) (
      Reads P (binS .mul 2 false t7 t1) h5 fun t46 =>
      Reads P (binS .add 2 false t46 t34) h5 fun t48 =>
      Reads P (binS .add 3 true t8 (.int .i64 1)) h5 fun t50_3 =>
    C4 t48 t50_3 t9 h5))) E)))
theorem C121 {E : List PanicEntry → Heap → Prop} {t0 t1 : Value} {h : Heap} {R : Value → Heap → Prop} (hs : S121 Tryz.prog E t0 t1 h R) : CallsH Tryz.prog 121 #[t0, t1] h R E :=
  calls_of_vc H121 Tryz.mixed Tryz.func121 rfl (by kernel_rfl) (by kernel_rfl) (Eq.mp (show S121 Tryz.prog E t0 t1 h R = vcFun Tryz.prog H121 E Tryz.f121.results.toList _ [t0, t1] h R from by kernel_rfl) hs)

def H122 : Hints := { r := fun _ => none, s := fun i => match i with | 3 => some [] | 13 => some [8] | _ => none, l := fun i => match i with | 6 => some [7, 8, 9, 21] | _ => none, d := fun _ => none }
def S122 (P : Program) (E : List PanicEntry → Heap → Prop) (t0 t1 : Value) (h : Heap) (R : Value → Heap → Prop) : Prop :=
  Join0 (fun J1 =>
    Reads P (binS .lss 3 true t1 (.int .i64 2)) h fun t14 =>
    boolV t14 fun b2 => bcase b2 (
    R (.tuple #[(.int .i64 0), (.int .i64 0), (.bool false)]) h) (
    Reads P (binS .gtr 3 true t1 (.int .i64 16)) h fun t17 =>
    boolV t17 fun b3 => bcase b3 (
      R (.tuple #[(.int .i64 0), (.int .i64 0), (.bool false)]) h) (
      J1 h)))
  (fun h1 =>
  Reads P (builtinS .len #[29] 3 #[t0]) h1 fun t20 =>
  Loop4 (.int .u64 0) (.bool false) (.int .i64 0) (.int .i64 0) h1 (fun C4 t7 t8 t9 t21 h2 =>
    Reads P (binS .lss 3 false t21 t20) h2 fun t22 =>
    boolV t22 fun b5 => bcase b5 (
      Reads P (Instr.indexAt 29 t0 t21) h2 fun t23 =>
    pLoad P 5 t23 h2 fun t24 =>
    CallsH P 132 #[t24] h2 (fun t26 h3 =>
    Reads P (binS .geq 3 false t26 t1) h3 fun t29 =>
    boolV t29 fun b6 => bcase b6 (
      boolV t8 fun b7 => bcase b7 (
    R (.tuple #[(.int .i64 9223372036854775807), t9, (.bool true)]) h3) (
    Reads P (convert 31 2 t7) h3 fun t54 =>
  R (.tuple #[t54, t9, (.bool false)]) h3)) (
      Reads P (binS .add 3 true t9 (.int .i64 1)) h3 fun t31 =>
    Join1 (fun J8 =>
      boolV t8 fun b9 => bcase b9 (
      Reads P (binS .add 3 true t21 (.int .i64 1)) h3 fun t50 =>
    C4 t7 (.bool true) t31 t50 h3) (
      Reads P (convert 3 31 t26) h3 fun t36 =>
      Reads P (binS .sub 31 true (.int .u64 9223372036854775807) t36) h3 fun t37 =>
      Reads P (convert 3 31 t1) h3 fun t39 =>
      Reads P (binS .quo 31 false t37 t39) h3 fun t40 =>
      Reads P (binS .gtr 31 false t7 t40) h3 fun t41 =>
      boolV t41 fun b10 => bcase b10 (
        Reads P (binS .add 3 true t21 (.int .i64 1)) h3 fun t50_2 =>
    C4 t7 (.bool true) t31 t50_2 h3) (
        J8 t8 h3)))
    (fun t8_2 h4 =>
    Reads P (convert 3 31 t1) h4 fun t45 =>
    Reads P (binS .mul 31 false t7 t45) h4 fun t46 =>
    Reads P (convert 3 31 t26) h4 fun t48 =>
    Reads P (binS .add 31 false t46 t48) h4 fun t49 =>
    Reads P (binS .add 3 true t21 (.int .i64 1)) h4 fun t50_3 =>
    C4 t49 t8_2 t31 t50_3 h4))) E) (
      boolV t8 fun b11 => bcase b11 (
    R (.tuple #[(.int .i64 9223372036854775807), t9, (.bool true)]) h2) (
    Reads P (convert 31 2 t7) h2 fun t54_2 =>
  R (.tuple #[t54_2, t9, (.bool false)]) h2))))
theorem C122 {E : List PanicEntry → Heap → Prop} {t0 t1 : Value} {h : Heap} {R : Value → Heap → Prop} (hs : S122 Tryz.prog E t0 t1 h R) : CallsH Tryz.prog 122 #[t0, t1] h R E :=
  calls_of_vc H122 Tryz.mixed Tryz.func122 rfl (by kernel_rfl) (by kernel_rfl) (Eq.mp (show S122 Tryz.prog E t0 t1 h R = vcFun Tryz.prog H122 E Tryz.f122.results.toList _ [t0, t1] h R from by kernel_rfl) hs)

def H128 : Hints := { r := fun _ => none, s := fun _ => none, l := fun _ => none, d := fun i => match i with | 1 => some (.cut 2 (.take 0 (.take 2 (.take 4 (.take 5 (.take 6 (.take 7 (.act 1 (.act 3 (.cut 0 (.act 8 (.cut 1 (.take 9 .done)) .stop)) .stop) .stop)))))))) | _ => none }
def S128 (P : Program) (E : List PanicEntry → Heap → Prop) (t0 t1 t2 : Value) (h : Heap) (R : Value → Heap → Prop) : Prop :=
  Stable h fun S1 =>
  ReadsS P (nilS t0) S1 fun t12 =>
  ReadsS P (Instr.fieldAt 177 t12 2) S1 fun t13 =>
  pLoadS P 3 t13 S1 fun t14 =>
  (CallsH P 27 #[t1] h (fun t8 h1 =>
  S1 h1 ∧ ((CallsH P 26 #[t8, t2] h1 (fun t10 h2 =>
  S1 h2 ∧ ((CallsH P 25 #[t10, t14] h2 (fun t15 h3 =>
  True ∧ (R t15 h3)) E) ∧ True)) E) ∧ True)) E) ∧ True
theorem C128 {E : List PanicEntry → Heap → Prop} {t0 t1 t2 : Value} {h : Heap} {R : Value → Heap → Prop} (hs : S128 Tryz.prog E t0 t1 t2 h R) : CallsH Tryz.prog 128 #[t0, t1, t2] h R E :=
  calls_of_vc H128 Tryz.mixed Tryz.func128 rfl (by kernel_rfl) (by kernel_rfl) (Eq.mp (show S128 Tryz.prog E t0 t1 t2 h R = vcFun Tryz.prog H128 E Tryz.f128.results.toList _ [t0, t1, t2] h R from by kernel_rfl) hs)

def H129 : Hints := { r := fun _ => none, s := fun i => match i with | 2 => some [4] | 4 => some [] | 10 => some [] | _ => none, l := fun i => match i with | 7 => some [6] | _ => none, d := fun i => match i with | 7 => some (.cut 1 (.take 0 (.take 1 (.take 2 (.take 3 (.take 4 (.take 5 (.take 6 (.take 7 (.take 8 (.take 9 .done))))))))))) | 8 => some (.cut 2 (.take 0 (.take 1 (.take 2 (.take 3 (.take 4 (.take 5 (.take 6 (.act 7 (.cut 0 (.act 8 (.cut 1 (.take 9 .done)) .stop)) .stop))))))))) | _ => none }
def S129 (P : Program) (E : List PanicEntry → Heap → Prop) (t0 : Value) (h : Heap) (R : Value → Heap → Prop) : Prop :=
  pAlloc P 33 h fun t2 h1 =>
  Join1 (fun J1 =>
    CallsH P 135 #[t0, (.int .i64 0), (.int .u8 94)] h1 (fun t11 h2 =>
    boolV t11 fun b2 => bcase b2 (
    (undef = undef ∧ ((undef = undef ∧ ((undef = undef ∧ ((undef = undef ∧ ((undef = undef ∧ (J1 (.bool true) h2))))))))))) (
    CallsH P 135 #[t0, (.int .i64 0), (.int .u8 33)] h2 (fun t14 h3 =>
    boolV t14 fun b3 => bcase b3 (
    Reads P (nilS t0) h3 fun t17 =>
    Reads P (Instr.fieldAt 177 t17 2) h3 fun t18 =>
    pLoad P 3 t18 h3 fun t19 =>
    Reads P (binS .eql 3 true t19 (.int .i64 2)) h3 fun t20 =>
    J1 t20 h3) (
    J1 (.bool false) h3)) E)) E)
  (fun t4 h4 =>
  Join0 (fun J4 =>
    boolV t4 fun b5 => bcase b5 (
      Reads P (nilS t0) h4 fun t25 =>
      Reads P (Instr.fieldAt 177 t25 1) h4 fun t26 =>
      pLoad P 3 t26 h4 fun t27 =>
      Reads P (binS .add 3 true t27 (.int .i64 1)) h4 fun t28 =>
      Reads P (nilS t0) h4 fun t29 =>
      Reads P (Instr.fieldAt 177 t29 1) h4 fun t30 =>
      pStore P 3 t30 t28 h4 fun h5 =>
      J4 h5) (
      J4 h4))
  (fun h6 =>
  pAlloc P 33 h6 fun t5 h7 =>
  Loop1 (.bool true) h7 (fun C6 t6 h8 =>
    Reads P (nilS t0) h8 fun t32 =>
    Reads P (Instr.fieldAt 177 t32 1) h8 fun t33 =>
    pLoad P 3 t33 h8 fun t34 =>
    Reads P (nilS t0) h8 fun t36 =>
    Reads P (Instr.fieldAt 177 t36 0) h8 fun t37 =>
    pLoad P 29 t37 h8 fun t38 =>
    Reads P (builtinS .len #[29] 3 #[t38]) h8 fun t39 =>
    Reads P (binS .geq 3 false t34 t39) h8 fun t40 =>
    boolV t40 fun b7 => bcase b7 (
      Stable h8 fun S8 =>
      pLoadS P 33 t5 S8 fun t41 =>
      ReadsS P (nilS t0) S8 fun t44 =>
      ReadsS P (Instr.fieldAt 177 t44 0) S8 fun t45 =>
      pLoadS P 29 t45 S8 fun t46 =>
      ReadsS P (builtinS .len #[29] 3 #[t46]) S8 fun t47 =>
      (CallsH P 128 #[t0, (.int .i64 8), t47] h8 (fun t48 h9 =>
      S8 h9 ∧ ((pStore P 33 t2 t41 h9 fun h10 =>
      True ∧ (pLoad P 33 t2 h10 fun r9 => R (.tuple #[r9, t48]) h10)) ∧ True)) E) ∧ True) (
      Join0 (fun J10 =>
      Reads P (Op.unary .not t6) h8 fun t50 =>
      boolV t50 fun b11 => bcase b11 (
      CallsH P 135 #[t0, (.int .i64 0), (.int .u8 93)] h8 (fun t53 h11 =>
      boolV t53 fun b12 => bcase b12 (
        Reads P (nilS t0) h11 fun t79 =>
  Reads P (Instr.fieldAt 177 t79 1) h11 fun t80 =>
  pLoad P 3 t80 h11 fun t81 =>
  Reads P (binS .add 3 true t81 (.int .i64 1)) h11 fun t82 =>
  Reads P (nilS t0) h11 fun t83 =>
  Reads P (Instr.fieldAt 177 t83 1) h11 fun t84 =>
  pStore P 3 t84 t82 h11 fun h12 =>
  boolV t4 fun b13 => bcase b13 (
    pLoad P 33 t5 h12 fun t86 =>
    CallsH P 96 #[t86] h12 (fun t87 h13 =>
    pStore P 33 t5 t87 h13 fun h14 =>
    pLoad P 33 t5 h14 fun t88 =>
  pStore P 33 t2 t88 h14 fun h15 =>
  pLoad P 33 t2 h15 fun r14 => R (.tuple #[r14, .nilIface]) h15) E) (
    pLoad P 33 t5 h12 fun t88_2 =>
  pStore P 33 t2 t88_2 h12 fun h16 =>
  pLoad P 33 t2 h16 fun r15 => R (.tuple #[r15, .nilIface]) h16)) (
        J10 h11)) E) (
      J10 h8))
    (fun h17 =>
    CallsH P 136 #[t0] h17 (fun t57 h18 =>
    Reads P (Instr.extract t57 0) h18 fun t58 =>
    Reads P (Instr.extract t57 1) h18 fun t59 =>
    pAlloc P 187 h18 fun t7 h19 =>
    pStore P 187 t7 t58 h19 fun h20 =>
    Reads P (binS .neq 26 true t59 .nilIface) h20 fun t61 =>
    boolV t61 fun b16 => bcase b16 (
      pLoad P 33 t5 h20 fun t62 =>
      pStore P 33 t2 t62 h20 fun h21 =>
      pLoad P 33 t2 h21 fun r17 => R (.tuple #[r17, t59]) h21) (
      pLoad P 187 t7 h20 fun t66 =>
    CallsH P 137 #[t0, t66] h20 (fun t67 h22 =>
    Reads P (Instr.extract t67 0) h22 fun t68 =>
    Reads P (Instr.extract t67 1) h22 fun t69 =>
    pAlloc P 33 h22 fun t9 h23 =>
    pStore P 33 t9 t68 h23 fun h24 =>
    Reads P (binS .neq 26 true t69 .nilIface) h24 fun t71 =>
    boolV t71 fun b18 => bcase b18 (
      pLoad P 33 t5 h24 fun t72 =>
      pStore P 33 t2 t72 h24 fun h25 =>
      pLoad P 33 t2 h25 fun r19 => R (.tuple #[r19, t69]) h25) (
      pLoad P 33 t5 h24 fun t74 =>
    pLoad P 33 t9 h24 fun t75 =>
    Runs P (vS (Instr.buildSlice 195 2 #[(0, t74), (1, t75)])) h24 (fun t76 h26 =>
    CallsH P 138 #[t76] h26 (fun t77 h27 =>
    pStore P 33 t5 t77 h27 fun h28 =>
    C6 (.bool false) h28) E) E)) E)) E)))))
theorem C129 {E : List PanicEntry → Heap → Prop} {t0 : Value} {h : Heap} {R : Value → Heap → Prop} (hs : S129 Tryz.prog E t0 h R) : CallsH Tryz.prog 129 #[t0] h R E :=
  calls_of_vc H129 Tryz.mixed Tryz.func129 rfl (by kernel_rfl) (by kernel_rfl) (Eq.mp (show S129 Tryz.prog E t0 h R = vcFun Tryz.prog H129 E Tryz.f129.results.toList _ [t0] h R from by kernel_rfl) hs)

def H130 : Hints := { r := fun _ => none, s := fun _ => none, l := fun _ => none, d := fun i => match i with | 0 => some (.cut 1 (.take 0 (.take 1 (.take 2 (.take 3 (.take 4 (.take 5 (.take 6 (.take 7 (.take 8 (.take 9 (.take 10 (.take 11 (.cut 0 (.act 12 .done .stop))))))))))))))) | _ => none }
def S130 (P : Program) (E : List PanicEntry → Heap → Prop) (t0 t1 : Value) (h : Heap) (R : Value → Heap → Prop) : Prop :=
  Reads P (binS .quo 5 true t1 (.int .u8 64)) h fun t6 =>
  Reads P (nilS t0) h fun t7 =>
  Reads P (Instr.indexAt 33 t7 t6) h fun t8 =>
  pLoad P 31 t8 h fun t9 =>
  Reads P (binS .rem 5 true t1 (.int .u8 64)) h fun t11 =>
  Reads P (binS .shl 31 true (.int .u64 1) t11) h fun t12 =>
  Reads P (binS .or 31 false t9 t12) h fun t13 =>
  Reads P (nilS t0) h fun t14 =>
  Reads P (Instr.indexAt 33 t14 t6) h fun t15 =>
  (pStore P 31 t15 t13 h fun h1 =>
  True ∧ (R (.tuple #[]) h1)) ∧ True
theorem C130 {E : List PanicEntry → Heap → Prop} {t0 t1 : Value} {h : Heap} {R : Value → Heap → Prop} (hs : S130 Tryz.prog E t0 t1 h R) : CallsH Tryz.prog 130 #[t0, t1] h R E :=
  calls_of_vc H130 Tryz.mixed Tryz.func130 rfl (by kernel_rfl) (by kernel_rfl) (Eq.mp (show S130 Tryz.prog E t0 t1 h R = vcFun Tryz.prog H130 E Tryz.f130.results.toList _ [t0, t1] h R from by kernel_rfl) hs)

def H131 : Hints := { r := fun _ => none, s := fun i => match i with | 2 => some [] | 3 => some [] | 5 => some [0] | _ => none, l := fun _ => none, d := fun _ => none }
def S131 (P : Program) (E : List PanicEntry → Heap → Prop) (t0 : Value) (h : Heap) (R : Value → Heap → Prop) : Prop :=
  Join1 (fun J1 =>
    Join0 (fun J2 =>
      Reads P (binS .geq 5 true t0 (.int .u8 65)) h fun t5 =>
      boolV t5 fun b3 => bcase b3 (
      Reads P (binS .leq 5 true t0 (.int .u8 70)) h fun t8 =>
      boolV t8 fun b4 => bcase b4 (
        Reads P (binS .add 5 true t0 (.int .u8 32)) h fun t25 =>
    J1 t25 h) (
        J2 h)) (
      J2 h))
    (fun h1 =>
    Join0 (fun J5 =>
      Reads P (binS .geq 5 true t0 (.int .u8 97)) h1 fun t12 =>
      boolV t12 fun b6 => bcase b6 (
      Reads P (binS .leq 5 true t0 (.int .u8 102)) h1 fun t15 =>
      boolV t15 fun b7 => bcase b7 (
        J1 t0 h1) (
        J5 h1)) (
      J5 h1))
    (fun h2 =>
    Reads P (binS .geq 5 true t0 (.int .u8 48)) h2 fun t19 =>
    boolV t19 fun b8 => bcase b8 (
    Reads P (binS .leq 5 true t0 (.int .u8 57)) h2 fun t22 =>
    boolV t22 fun b9 => bcase b9 (
      Reads P (binS .sub 5 true t0 (.int .u8 48)) h2 fun t31 =>
  Reads P (convert 5 3 t31) h2 fun t32 =>
  R t32 h2) (
      R (.int .i64 16) h2)) (
    R (.int .i64 16) h2))))
  (fun t0_2 h3 =>
  Reads P (binS .sub 5 true t0_2 (.int .u8 97)) h3 fun t27 =>
  Reads P (convert 5 3 t27) h3 fun t28 =>
  Reads P (binS .add 3 true t28 (.int .i64 10)) h3 fun t29 =>
  R t29 h3)
theorem C131 {E : List PanicEntry → Heap → Prop} {t0 : Value} {h : Heap} {R : Value → Heap → Prop} (hs : S131 Tryz.prog E t0 h R) : CallsH Tryz.prog 131 #[t0] h R E :=
  calls_of_vc H131 Tryz.mixed Tryz.func131 rfl (by kernel_rfl) (by kernel_rfl) (Eq.mp (show S131 Tryz.prog E t0 h R = vcFun Tryz.prog H131 E Tryz.f131.results.toList _ [t0] h R from by kernel_rfl) hs)

def H132 : Hints := { r := fun _ => none, s := fun i => match i with | 2 => some [3] | 4 => some [13] | 6 => some [24] | _ => none, l := fun _ => none, d := fun _ => none }
def S132 (P : Program) (E : List PanicEntry → Heap → Prop) (t0 : Value) (h : Heap) (R : Value → Heap → Prop) : Prop :=
  Join1 (fun J1 =>
    Reads P (binS .geq 5 true t0 (.int .u8 48)) h fun t5 =>
    boolV t5 fun b2 => bcase b2 (
    Reads P (binS .leq 5 true t0 (.int .u8 57)) h fun t8 =>
    J1 t8 h) (
    J1 (.bool false) h))
  (fun t3 h1 =>
  boolV t3 fun b3 => bcase b3 (
    Reads P (binS .sub 5 true t0 (.int .u8 48)) h1 fun t11 =>
    Reads P (convert 5 3 t11) h1 fun t12 =>
    R t12 h1) (
    Join1 (fun J4 =>
      Reads P (binS .geq 5 true t0 (.int .u8 97)) h1 fun t15 =>
      boolV t15 fun b5 => bcase b5 (
      Reads P (binS .leq 5 true t0 (.int .u8 102)) h1 fun t18 =>
      J4 t18 h1) (
      J4 (.bool false) h1))
    (fun t13 h2 =>
    boolV t13 fun b6 => bcase b6 (
      Reads P (binS .sub 5 true t0 (.int .u8 97)) h2 fun t21 =>
      Reads P (convert 5 3 t21) h2 fun t22 =>
      Reads P (binS .add 3 true t22 (.int .i64 10)) h2 fun t23 =>
      R t23 h2) (
      Join1 (fun J7 =>
        Reads P (binS .geq 5 true t0 (.int .u8 65)) h2 fun t26 =>
        boolV t26 fun b8 => bcase b8 (
        Reads P (binS .leq 5 true t0 (.int .u8 70)) h2 fun t29 =>
        J7 t29 h2) (
        J7 (.bool false) h2))
      (fun t24 h3 =>
      boolV t24 fun b9 => bcase b9 (
        Reads P (binS .sub 5 true t0 (.int .u8 65)) h3 fun t32 =>
        Reads P (convert 5 3 t32) h3 fun t33 =>
        Reads P (binS .add 3 true t33 (.int .i64 10)) h3 fun t34 =>
        R t34 h3) (
        R (.int .i64 99) h3))))))
theorem C132 {E : List PanicEntry → Heap → Prop} {t0 : Value} {h : Heap} {R : Value → Heap → Prop} (hs : S132 Tryz.prog E t0 h R) : CallsH Tryz.prog 132 #[t0] h R E :=
  calls_of_vc H132 Tryz.mixed Tryz.func132 rfl (by kernel_rfl) (by kernel_rfl) (Eq.mp (show S132 Tryz.prog E t0 h R = vcFun Tryz.prog H132 E Tryz.f132.results.toList _ [t0] h R from by kernel_rfl) hs)

def H135 : Hints := { r := fun _ => none, s := fun _ => none, l := fun _ => none, d := fun i => match i with | 1 => some (.cut 1 (.take 0 (.take 1 (.take 2 (.take 3 (.take 4 (.take 5 (.take 6 (.take 7 (.take 8 (.take 9 (.take 10 (.take 11 (.take 12 (.take 13 (.take 14 (.take 15 (.take 16 (.take 17 (.take 18 (.take 19 (.take 20 (.take 21 (.take 22 (.take 23 (.take 24 (.take 25 (.take 26 (.take 27 (.take 28 .done)))))))))))))))))))))))))))))) | _ => none }
def S135 (P : Program) (E : List PanicEntry → Heap → Prop) (t0 t1 t2 : Value) (h : Heap) (R : Value → Heap → Prop) : Prop :=
  Reads P (nilS t0) h fun t8 =>
  Reads P (Instr.fieldAt 177 t8 1) h fun t9 =>
  pLoad P 3 t9 h fun t10 =>
  Reads P (binS .add 3 false t10 t1) h fun t12 =>
  Reads P (nilS t0) h fun t14 =>
  Reads P (Instr.fieldAt 177 t14 0) h fun t15 =>
  pLoad P 29 t15 h fun t16 =>
  Reads P (builtinS .len #[29] 3 #[t16]) h fun t17 =>
  Reads P (binS .lss 3 false t12 t17) h fun t18 =>
  boolV t18 fun b1 => bcase b1 (
  Reads P (nilS t0) h fun t21 =>
  Reads P (Instr.fieldAt 177 t21 0) h fun t22 =>
  pLoad P 29 t22 h fun t23 =>
  Reads P (nilS t0) h fun t25 =>
  Reads P (Instr.fieldAt 177 t25 1) h fun t26 =>
  pLoad P 3 t26 h fun t27 =>
  Reads P (binS .add 3 false t27 t1) h fun t29 =>
  Reads P (Instr.indexAt 29 t23 t29) h fun t30 =>
  pLoad P 5 t30 h fun t31 =>
  Reads P (binS .eql 5 false t31 t2) h fun t33 =>
  R t33 h) (
  R (.bool false) h)
theorem C135 {E : List PanicEntry → Heap → Prop} {t0 t1 t2 : Value} {h : Heap} {R : Value → Heap → Prop} (hs : S135 Tryz.prog E t0 t1 t2 h R) : CallsH Tryz.prog 135 #[t0, t1, t2] h R E :=
  calls_of_vc H135 Tryz.mixed Tryz.func135 rfl (by kernel_rfl) (by kernel_rfl) (Eq.mp (show S135 Tryz.prog E t0 t1 t2 h R = vcFun Tryz.prog H135 E Tryz.f135.results.toList _ [t0, t1, t2] h R from by kernel_rfl) hs)

end Go.Proofs
