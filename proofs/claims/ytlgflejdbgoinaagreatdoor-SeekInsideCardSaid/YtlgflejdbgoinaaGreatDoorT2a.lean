/- A part of the proofs over this seat: T2a. -/
import Derived.Test.YtlgflejdbgoinaaGreatDoorProg
import Derived.KernelRfl
import Derived.Test.YtlgflejdbgoinaaGreatDoorVcg
set_option linter.unusedVariables false
set_option linter.unusedSimpArgs false
set_option maxRecDepth 100000
namespace Go.Proofs
open Go.Vcg
theorem Tryz.mixed : Tryz.prog.follows .mixedOrders = true := by kernel_rfl
def H3 : Hints := { r := fun _ => none, s := fun i => match i with | 3 => some [] | 7 => some [] | 11 => some [] | _ => none, l := fun _ => none, d := fun _ => none }
def S3 (P : Program) (E : List PanicEntry → Heap → Prop) (t0 t1 : Value) (h : Heap) (R : Value → Heap → Prop) : Prop :=
  Join0 (fun J1 =>
    Reads P (builtinS .len #[22] 3 #[t0]) h fun t17 =>
    Reads P (binS .eql 3 true t17 (.int .i64 0)) h fun t18 =>
    boolV t18 fun b2 => bcase b2 (
    CallsH P 9 #[] h (fun t34 h1 =>
    R t34 h1) E) (
    Reads P (builtinS .len #[22] 3 #[t1]) h fun t21 =>
    Reads P (binS .eql 3 true t21 (.int .i64 0)) h fun t22 =>
    boolV t22 fun b3 => bcase b3 (
    CallsH P 9 #[] h (fun t34_2 h2 =>
    R t34_2 h2) E) (
    Reads P (builtinS .len #[22] 3 #[t0]) h fun t26 =>
    Reads P (binS .gtr 3 true t26 (.int .i64 25)) h fun t27 =>
    boolV t27 fun b4 => bcase b4 (
    CallsH P 9 #[] h (fun t34_3 h3 =>
    R t34_3 h3) E) (
    Reads P (builtinS .len #[22] 3 #[t1]) h fun t31 =>
    Reads P (binS .gtr 3 true t31 (.int .i64 25)) h fun t32 =>
    boolV t32 fun b5 => bcase b5 (
      CallsH P 9 #[] h (fun t34_4 h4 =>
      R t34_4 h4) E) (
      J1 h)))))
  (fun h5 =>
  CallsH P 10 #[t0] h5 (fun t37 h6 =>
  Reads P (Instr.extract t37 0) h6 fun t38 =>
  Reads P (Instr.extract t37 1) h6 fun t39 =>
  CallsH P 10 #[t1] h6 (fun t42 h7 =>
  Reads P (Instr.extract t42 0) h7 fun t43 =>
  Reads P (Instr.extract t42 1) h7 fun t44 =>
  Join0 (fun J6 =>
    Reads P (binS .neq 26 true t39 .nilIface) h7 fun t46 =>
    boolV t46 fun b7 => bcase b7 (
    CallsH P 9 #[] h7 (fun t51 h8 =>
    R t51 h8) E) (
    Reads P (binS .neq 26 true t44 .nilIface) h7 fun t49 =>
    boolV t49 fun b8 => bcase b8 (
      CallsH P 9 #[] h7 (fun t51_2 h9 =>
      R t51_2 h9) E) (
      J6 h7)))
  (fun h10 =>
  Runs P ((do let d ← Deferred.ofValue (.func (.func 11) #[] #[]) #[t0]; invoke d.target d.args)) h10 (fun t55 h11 =>
  CallsH P 10 #[t55] h11 (fun t56 h12 =>
  Reads P (Instr.extract t56 0) h12 fun t57 =>
  Reads P (Instr.extract t56 1) h12 fun t58 =>
  Join0 (fun J9 =>
    Reads P (binS .neq 26 true t58 .nilIface) h12 fun t60 =>
    boolV t60 fun b10 => bcase b10 (
    R (.bool false) h12) (
    CallsH P 12 #[t57] h12 (fun t63 h13 =>
    CallsH P 12 #[t38] h13 (fun t65 h14 =>
    Reads P (binS .neq 9 false t63 t65) h14 fun t66 =>
    boolV t66 fun b11 => bcase b11 (
      R (.bool false) h14) (
      J9 h14)) E) E))
  (fun h15 =>
  Runs P ((do let d ← Deferred.ofValue (.func (.func 11) #[] #[]) #[t0]; invoke d.target d.args)) h15 (fun t71 h16 =>
  Runs P ((do let d ← Deferred.ofValue (.func (.func 11) #[] #[]) #[t1]; invoke d.target d.args)) h16 (fun t74 h17 =>
  Runs P (builtin .append #[22, 22] 22 #[false, false] #[t71, t74]) h17 (fun t75 h18 =>
  CallsH P 10 #[t75] h18 (fun t76 h19 =>
  Reads P (Instr.extract t76 0) h19 fun t77 =>
  Reads P (Instr.extract t76 1) h19 fun t78 =>
  Runs P ((do let d ← Deferred.ofValue (.func (.func 11) #[] #[]) #[t0]; invoke d.target d.args)) h19 (fun t82 h20 =>
  Runs P (vS (Instr.buildSlice 22 1 #[(0, (str [45, 97]))])) h20 (fun t83 h21 =>
  Runs P (builtin .append #[22, 22] 22 #[false, false] #[t82, t83]) h21 (fun t84 h22 =>
  Runs P ((do let d ← Deferred.ofValue (.func (.func 11) #[] #[]) #[t1]; invoke d.target d.args)) h22 (fun t87 h23 =>
  Runs P (builtin .append #[22, 22] 22 #[false, false] #[t84, t87]) h23 (fun t88 h24 =>
  CallsH P 10 #[t88] h24 (fun t89 h25 =>
  Reads P (Instr.extract t89 0) h25 fun t90 =>
  Reads P (Instr.extract t89 1) h25 fun t91 =>
  Reads P (binS .eql 26 true t78 .nilIface) h25 fun t93 =>
  boolV t93 fun b12 => bcase b12 (
  Reads P (binS .eql 26 true t91 .nilIface) h25 fun t96 =>
  boolV t96 fun b13 => bcase b13 (
  CallsH P 12 #[t77] h25 (fun t100 h26 =>
  CallsH P 12 #[t90] h26 (fun t102 h27 =>
  Reads P (binS .eql 9 false t100 t102) h27 fun t103 =>
  boolV t103 fun b14 => bcase b14 (
  CallsH P 12 #[t43] h27 (fun t107 h28 =>
  Reads P (builtinS .len #[9] 3 #[t107]) h28 fun t108 =>
  Reads P (binS .gtr 3 true t108 (.int .i64 0)) h28 fun t109 =>
  boolV t109 fun b15 => bcase b15 (
  CallsH P 9 #[] h28 (fun t112 h29 =>
  R t112 h29) E) (
  R (.bool false) h28)) E) (
  R (.bool false) h27)) E) E) (
  R (.bool false) h25)) (
  R (.bool false) h25)) E) E) E) E) E) E) E) E) E) E)) E) E)) E) E)
theorem C3 {E : List PanicEntry → Heap → Prop} {t0 t1 : Value} {h : Heap} {R : Value → Heap → Prop} (hs : S3 Tryz.prog E t0 t1 h R) : CallsH Tryz.prog 3 #[t0, t1] h R E :=
  calls_of_vc H3 Tryz.mixed Tryz.func3 rfl (by kernel_rfl) (by kernel_rfl) (Eq.mp (show S3 Tryz.prog E t0 t1 h R = vcFun Tryz.prog H3 E Tryz.f3.results.toList _ [t0, t1] h R from by kernel_rfl) hs)

def H9 : Hints := { r := fun _ => none, s := fun _ => none, l := fun _ => none, d := fun _ => none }
def S9 (P : Program) (E : List PanicEntry → Heap → Prop) (h : Heap) (R : Value → Heap → Prop) : Prop :=
  Runs P (vS (Instr.buildSlice 22 4 #[(0, (str [45, 116, 121, 112, 101])), (1, (str [102])), (2, (str [45, 111])), (3, (str [45, 112, 114, 117, 110, 101]))])) h (fun t4 h1 =>
  CallsH P 10 #[t4] h1 (fun t5 h2 =>
  Reads P (Instr.extract t5 0) h2 fun t6 =>
  Reads P (Instr.extract t5 1) h2 fun t7 =>
  Reads P (binS .eql 26 true t7 .nilIface) h2 fun t9 =>
  boolV t9 fun b1 => bcase b1 (
  Reads P (binS .neq 24 true t6 (.pointer none)) h2 fun t12 =>
  boolV t12 fun b2 => bcase b2 (
  CallsH P 12 #[t6] h2 (fun t16 h3 =>
  Reads P (binS .eql 9 true t16 (str [40, 97, 110, 100, 32, 40, 111, 114, 32, 40, 116, 121, 112, 101, 32, 34, 54, 54, 34, 41, 32, 112, 114, 117, 110, 101, 41, 32, 112, 114, 105, 110, 116, 41])) h3 fun t17 =>
  R t17 h3) E) (
  R (.bool false) h2)) (
  R (.bool false) h2)) E) E
theorem C9 {E : List PanicEntry → Heap → Prop} {h : Heap} {R : Value → Heap → Prop} (hs : S9 Tryz.prog E  h R) : CallsH Tryz.prog 9 #[] h R E :=
  calls_of_vc H9 Tryz.mixed Tryz.func9 rfl (by kernel_rfl) (by kernel_rfl) (Eq.mp (show S9 Tryz.prog E  h R = vcFun Tryz.prog H9 E Tryz.f9.results.toList _ [] h R from by kernel_rfl) hs)

def H11 : Hints := { r := fun _ => none, s := fun _ => none, l := fun _ => none, d := fun _ => none }
def S11 (P : Program) (E : List PanicEntry → Heap → Prop) (t0 : Value) (h : Heap) (R : Value → Heap → Prop) : Prop :=
  Runs P (vS (Instr.buildSlice 22 1 #[(0, (str [40]))])) h (fun t3 h1 =>
  Runs P (builtin .append #[22, 22] 22 #[false, false] #[t3, t0]) h1 (fun t5 h2 =>
  Runs P (vS (Instr.buildSlice 22 1 #[(0, (str [41]))])) h2 (fun t6 h3 =>
  Runs P (builtin .append #[22, 22] 22 #[false, false] #[t5, t6]) h3 (fun t7 h4 =>
  R t7 h4) E) E) E) E
theorem C11 {E : List PanicEntry → Heap → Prop} {t0 : Value} {h : Heap} {R : Value → Heap → Prop} (hs : S11 Tryz.prog E t0 h R) : CallsH Tryz.prog 11 #[t0] h R E :=
  calls_of_vc H11 Tryz.mixed Tryz.func11 rfl (by kernel_rfl) (by kernel_rfl) (Eq.mp (show S11 Tryz.prog E t0 h R = vcFun Tryz.prog H11 E Tryz.f11.results.toList _ [t0] h R from by kernel_rfl) hs)

def H12 : Hints := { r := fun _ => none, s := fun i => match i with | 3 => some [] | _ => none, l := fun _ => none, d := fun _ => none }
def S12 (P : Program) (E : List PanicEntry → Heap → Prop) (t0 : Value) (h : Heap) (R : Value → Heap → Prop) : Prop :=
  Join0 (fun J1 =>
    Reads P (binS .eql 24 true t0 (.pointer none)) h fun t4 =>
    boolV t4 fun b2 => bcase b2 (
    R (str []) h) (
    Reads P (nilS t0) h fun t7 =>
    Reads P (Instr.fieldAt 55 t7 0) h fun t8 =>
    Reads P (Instr.fieldAt 40 t8 0) h fun t9 =>
    pLoad P 3 t9 h fun t10 =>
    Reads P (binS .eql 3 true t10 (.int .i64 0)) h fun t11 =>
    boolV t11 fun b3 => bcase b3 (
      R (str []) h) (
      J1 h)))
  (fun h1 =>
  Reads P (nilS t0) h1 fun t14 =>
  Reads P (Instr.fieldAt 55 t14 0) h1 fun t15 =>
  pLoad P 40 t15 h1 fun t16 =>
  CallsH P 26 #[t16] h1 (fun t17 h2 =>
  R t17 h2) E)
theorem C12 {E : List PanicEntry → Heap → Prop} {t0 : Value} {h : Heap} {R : Value → Heap → Prop} (hs : S12 Tryz.prog E t0 h R) : CallsH Tryz.prog 12 #[t0] h R E :=
  calls_of_vc H12 Tryz.mixed Tryz.func12 rfl (by kernel_rfl) (by kernel_rfl) (Eq.mp (show S12 Tryz.prog E t0 h R = vcFun Tryz.prog H12 E Tryz.f12.results.toList _ [t0] h R from by kernel_rfl) hs)

def H14 : Hints := { r := fun _ => none, s := fun i => match i with | 4 => some [1] | _ => none, l := fun _ => none, d := fun _ => none }
def S14 (P : Program) (E : List PanicEntry → Heap → Prop) (t0 t1 t2 t3 t4 : Value) (h : Heap) (R : Value → Heap → Prop) : Prop :=
  CallsH P 10 #[t0] h (fun t12 h1 =>
  Reads P (Instr.extract t12 0) h1 fun t13 =>
  Reads P (Instr.extract t12 1) h1 fun t14 =>
  Join1 (fun J1 =>
    pLoad P 3 t2 h1 fun t15 =>
    Reads P (binS .neq 3 true t15 (.int .i64 0)) h1 fun t16 =>
    boolV t16 fun b2 => bcase b2 (
    pLoad P 3 t3 h1 fun t18 =>
    Reads P (binS .neq 3 true t18 (.int .i64 0)) h1 fun t19 =>
    boolV t19 fun b3 => bcase b3 (
    pLoad P 3 t4 h1 fun t22 =>
    Reads P (binS .neq 3 true t22 (.int .i64 0)) h1 fun t23 =>
    boolV t23 fun b4 => bcase b4 (
      Reads P (binS .add 9 true (str [40, 97, 110, 100, 32]) t1) h1 fun t26 =>
      Reads P (binS .add 9 true t26 (str [32, 112, 114, 105, 110, 116, 41])) h1 fun t27 =>
      J1 t27 h1) (
      J1 t1 h1)) (
    J1 t1 h1)) (
    J1 t1 h1))
  (fun t1_2 h2 =>
  Reads P (binS .eql 26 true t14 .nilIface) h2 fun t29 =>
  boolV t29 fun b5 => bcase b5 (
  CallsH P 12 #[t13] h2 (fun t32 h3 =>
  Reads P (binS .eql 9 false t32 t1_2) h3 fun t34 =>
  R t34 h3) E) (
  R (.bool false) h2))) E
theorem C14 {E : List PanicEntry → Heap → Prop} {t0 t1 t2 t3 t4 : Value} {h : Heap} {R : Value → Heap → Prop} (hs : S14 Tryz.prog E t0 t1 t2 t3 t4 h R) : CallsH Tryz.prog 14 #[t0, t1, t2, t3, t4] h R E :=
  calls_of_vc H14 Tryz.mixed Tryz.func14 rfl (by kernel_rfl) (by kernel_rfl) (Eq.mp (show S14 Tryz.prog E t0 t1 t2 t3 t4 h R = vcFun Tryz.prog H14 E Tryz.f14.results.toList _ [t0, t1, t2, t3, t4] h R from by kernel_rfl) hs)

def H16 : Hints := { r := fun _ => none, s := fun i => match i with | 12 => some [] | _ => none, l := fun i => match i with | 5 => some [4] | _ => none, d := fun _ => none }
def S16 (P : Program) (E : List PanicEntry → Heap → Prop) (t0 : Value) (h : Heap) (R : Value → Heap → Prop) : Prop :=
  pAlloc P 42 h fun t2 h1 =>
  Reads P (binS .eql 26 true t0 .nilIface) h1 fun t8 =>
  boolV t8 fun b1 => bcase b1 (
    Reads P (Instr.build 42 #[]) h1 fun t9 =>
    pStore P 42 t2 t9 h1 fun h2 =>
    pLoad P 42 t2 h2 fun r2 => R r2 h2) (
    Reads P (Instr.build 42 #[(0, (.int .i64 22))]) h1 fun t10 =>
  pAlloc P 42 h1 fun t3 h3 =>
  pStore P 42 t3 t10 h3 fun h4 =>
  Loop1 (.int .i64 21) h4 (fun C3 t4 h5 =>
    Reads P (binS .geq 3 true t4 (.int .i64 1)) h5 fun t12 =>
    boolV t12 fun b4 => bcase b4 (
      CallsH P 31 #[t0, t4] h5 (fun t17 h6 =>
    boolV t17 fun b5 => bcase b5 (
      Reads P (Instr.fieldAt 42 t3 0) h6 fun t19 =>
      pStore P 3 t19 t4 h6 fun h7 =>
      Reads P (binS .sub 3 true t4 (.int .i64 1)) h7 fun t14 =>
    C3 t14 h7) (
      Reads P (binS .sub 3 true t4 (.int .i64 1)) h6 fun t14_2 =>
    C3 t14_2 h6)) E) (
      pAlloc P 72 h5 fun t5 h8 =>
  Join0 (fun J6 =>
    Reads P (Instr.makeInterface 73 t5) h8 fun t21 =>
    CallsH P 22 #[t0, t21] h8 (fun t22 h9 =>
    boolV t22 fun b7 => bcase b7 (
      pLoad P 72 t5 h9 fun t23 =>
      Reads P (nilS t23) h9 fun t24 =>
      Reads P (Instr.fieldAt 75 t24 1) h9 fun t25 =>
      pLoad P 3 t25 h9 fun t26 =>
      Reads P (Instr.fieldAt 42 t3 1) h9 fun t27 =>
      pStore P 3 t27 t26 h9 fun h10 =>
      J6 h10) (
      J6 h9)) E)
  (fun h11 =>
  pAlloc P 76 h11 fun t6 h12 =>
  Reads P (Instr.makeInterface 77 t6) h12 fun t29 =>
  CallsH P 22 #[t0, t29] h12 (fun t30 h13 =>
  boolV t30 fun b8 => bcase b8 (
    pLoad P 76 t6 h13 fun t31 =>
    Reads P (nilS t31) h13 fun t32 =>
    Reads P (Instr.fieldAt 79 t32 1) h13 fun t33 =>
    pLoad P 3 t33 h13 fun t34 =>
    Reads P (Instr.fieldAt 42 t3 2) h13 fun t35 =>
    pStore P 3 t35 t34 h13 fun h14 =>
    pLoad P 42 t3 h14 fun t36 =>
  pStore P 42 t2 t36 h14 fun h15 =>
  pLoad P 42 t2 h15 fun r9 => R r9 h15) (
    pLoad P 42 t3 h13 fun t36_2 =>
  pStore P 42 t2 t36_2 h13 fun h16 =>
  pLoad P 42 t2 h16 fun r10 => R r10 h16)) E))))
theorem C16 {E : List PanicEntry → Heap → Prop} {t0 : Value} {h : Heap} {R : Value → Heap → Prop} (hs : S16 Tryz.prog E t0 h R) : CallsH Tryz.prog 16 #[t0] h R E :=
  calls_of_vc H16 Tryz.mixed Tryz.func16 rfl (by kernel_rfl) (by kernel_rfl) (Eq.mp (show S16 Tryz.prog E t0 h R = vcFun Tryz.prog H16 E Tryz.f16.results.toList _ [t0] h R from by kernel_rfl) hs)

def H18 : Hints := { r := fun _ => none, s := fun _ => none, l := fun _ => none, d := fun _ => none }
def S18 (P : Program) (E : List PanicEntry → Heap → Prop) (t0 : Value) (h : Heap) (R : Value → Heap → Prop) : Prop :=
  pAlloc P 40 h fun t2 h1 =>
  Reads P (binS .eql 24 true t0 (.pointer none)) h1 fun t4 =>
  boolV t4 fun b1 => bcase b1 (
    Reads P (Instr.build 40 #[]) h1 fun t5 =>
    pStore P 40 t2 t5 h1 fun h2 =>
    pLoad P 40 t2 h2 fun r2 => R r2 h2) (
    Reads P (nilS t0) h1 fun t7 =>
  Reads P (Instr.fieldAt 55 t7 0) h1 fun t8 =>
  pLoad P 40 t8 h1 fun t9 =>
  CallsH P 33 #[t9] h1 (fun t10 h3 =>
  pStore P 40 t2 t10 h3 fun h4 =>
  pLoad P 40 t2 h4 fun r3 => R r3 h4) E)
theorem C18 {E : List PanicEntry → Heap → Prop} {t0 : Value} {h : Heap} {R : Value → Heap → Prop} (hs : S18 Tryz.prog E t0 h R) : CallsH Tryz.prog 18 #[t0] h R E :=
  calls_of_vc H18 Tryz.mixed Tryz.func18 rfl (by kernel_rfl) (by kernel_rfl) (Eq.mp (show S18 Tryz.prog E t0 h R = vcFun Tryz.prog H18 E Tryz.f18.results.toList _ [t0] h R from by kernel_rfl) hs)

def H20 : Hints := { r := fun _ => none, s := fun _ => none, l := fun _ => none, d := fun _ => none }
def S20 (P : Program) (E : List PanicEntry → Heap → Prop) (t0 t1 : Value) (h : Heap) (R : Value → Heap → Prop) : Prop :=
  CallsH P 38 #[t0] h (fun t6 h1 =>
  CallsH P 37 #[t6, t1] h1 (fun t8 h2 =>
  CallsH P 36 #[t8, (.int .i64 9)] h2 (fun t9 h3 =>
  R t9 h3) E) E) E
theorem C20 {E : List PanicEntry → Heap → Prop} {t0 t1 : Value} {h : Heap} {R : Value → Heap → Prop} (hs : S20 Tryz.prog E t0 t1 h R) : CallsH Tryz.prog 20 #[t0, t1] h R E :=
  calls_of_vc H20 Tryz.mixed Tryz.func20 rfl (by kernel_rfl) (by kernel_rfl) (Eq.mp (show S20 Tryz.prog E t0 t1 h R = vcFun Tryz.prog H20 E Tryz.f20.results.toList _ [t0, t1] h R from by kernel_rfl) hs)

def H22 : Hints := { r := fun _ => none, s := fun i => match i with | 5 => some [] | 9 => some [] | _ => none, l := fun _ => none, d := fun _ => none }
def S22 (P : Program) (E : List PanicEntry → Heap → Prop) (t0 t1 : Value) (h : Heap) (R : Value → Heap → Prop) : Prop :=
  Reads P (binS .eql 26 true t0 .nilIface) h fun t9 =>
  boolV t9 fun b1 => bcase b1 (
    R (.bool false) h) (
    Join0 (fun J2 =>
    Reads P (binS .eql 20 true t1 .nilIface) h fun t11 =>
    boolV t11 fun b3 => bcase b3 (
      Reads P (Instr.makeInterface 9 (str [101, 114, 114, 111, 114, 115, 58, 32, 116, 97, 114, 103, 101, 116, 32, 99, 97, 110, 110, 111, 116, 32, 98, 101, 32, 110, 105, 108])) h fun t12 =>
      Runs P (vS (Instr.panic t12)) h (fun u4 h1 =>
      J2 h1) E) (
      J2 h))
  (fun h2 =>
  Runs P ((do let d ← Deferred.ofValue (.func (.func 39) #[] #[]) #[t1]; invoke d.target d.args)) h2 (fun t14 h3 =>
  pAlloc P 87 h3 fun t5 h4 =>
  pStore P 87 t5 t14 h4 fun h5 =>
  pLoad P 87 t5 h5 fun t15 =>
  Runs P ((do let d ← Deferred.ofValue (.func (.func 40) #[] #[]) #[t15]; invoke d.target d.args)) h5 (fun t16 h6 =>
  Join0 (fun J5 =>
    Runs P (invoke (.fn (.method "Kind") #[]) (#[t16] ++ #[])) h6 (fun t18 h7 =>
    Reads P (binS .neq 92 true t18 (.int .u8 22)) h7 fun t19 =>
    boolV t19 fun b6 => bcase b6 (
    Reads P (Instr.makeInterface 9 (str [101, 114, 114, 111, 114, 115, 58, 32, 116, 97, 114, 103, 101, 116, 32, 109, 117, 115, 116, 32, 98, 101, 32, 97, 32, 110, 111, 110, 45, 110, 105, 108, 32, 112, 111, 105, 110, 116, 101, 114])) h7 fun t24 =>
    Runs P (vS (Instr.panic t24)) h7 (fun u7 h8 =>
    J5 h8) E) (
    pLoad P 87 t5 h7 fun t21 =>
    Runs P ((do let d ← Deferred.ofValue (.func (.func 41) #[] #[]) #[t21]; invoke d.target d.args)) h7 (fun t22 h9 =>
    boolV t22 fun b8 => bcase b8 (
      Reads P (Instr.makeInterface 9 (str [101, 114, 114, 111, 114, 115, 58, 32, 116, 97, 114, 103, 101, 116, 32, 109, 117, 115, 116, 32, 98, 101, 32, 97, 32, 110, 111, 110, 45, 110, 105, 108, 32, 112, 111, 105, 110, 116, 101, 114])) h9 fun t24_2 =>
      Runs P (vS (Instr.panic t24_2)) h9 (fun u9 h10 =>
      J5 h10) E) (
      J5 h9)) E)) E)
  (fun h11 =>
  Runs P (invoke (.fn (.method "Elem") #[]) (#[t16] ++ #[])) h11 (fun t26 h12 =>
  Runs P (invoke (.fn (.method "Kind") #[]) (#[t26] ++ #[])) h12 (fun t28 h13 =>
  Reads P (binS .neq 92 true t28 (.int .u8 20)) h13 fun t29 =>
  boolV t29 fun b10 => bcase b10 (
  pLoad P 90 (.pointer (some ⟨0, 0, none⟩)) h13 fun t32 =>
  Runs P (invoke (.fn (.method "Implements") #[]) (#[t26] ++ #[t32])) h13 (fun t33 h14 =>
  Reads P (Op.unary .not t33) h14 fun t34 =>
  boolV t34 fun b11 => bcase b11 (
    Reads P (Instr.makeInterface 9 (str [101, 114, 114, 111, 114, 115, 58, 32, 42, 116, 97, 114, 103, 101, 116, 32, 109, 117, 115, 116, 32, 98, 101, 32, 105, 110, 116, 101, 114, 102, 97, 99, 101, 32, 111, 114, 32, 105, 109, 112, 108, 101, 109, 101, 110, 116, 32, 101, 114, 114, 111, 114])) h14 fun t36 =>
    Runs P (vS (Instr.panic t36)) h14 (fun u12 h15 =>
    pLoad P 87 t5 h15 fun t39 =>
  CallsH P 42 #[t0, t1, t39, t26] h15 (fun t41 h16 =>
  R t41 h16) E) E) (
    pLoad P 87 t5 h14 fun t39_2 =>
  CallsH P 42 #[t0, t1, t39_2, t26] h14 (fun t41_2 h17 =>
  R t41_2 h17) E)) E) (
  pLoad P 87 t5 h13 fun t39_3 =>
  CallsH P 42 #[t0, t1, t39_3, t26] h13 (fun t41_3 h18 =>
  R t41_3 h18) E)) E) E)) E) E))
theorem C22 {E : List PanicEntry → Heap → Prop} {t0 t1 : Value} {h : Heap} {R : Value → Heap → Prop} (hs : S22 Tryz.prog E t0 t1 h R) : CallsH Tryz.prog 22 #[t0, t1] h R E :=
  calls_of_vc H22 Tryz.mixed Tryz.func22 rfl (by kernel_rfl) (by kernel_rfl) (Eq.mp (show S22 Tryz.prog E t0 t1 h R = vcFun Tryz.prog H22 E Tryz.f22.results.toList _ [t0, t1] h R from by kernel_rfl) hs)

def H23 : Hints := { r := fun _ => none, s := fun _ => none, l := fun i => match i with | 2 => some [] | _ => none, d := fun i => match i with | 3 => some (.cut 2 (.take 0 (.take 1 (.act 2 (.cut 0 (.act 3 (.cut 0 (.act 4 .done .stop)) .stop)) .stop)))) | _ => none }
def S23 (P : Program) (E : List PanicEntry → Heap → Prop) (t0 : Value) (h : Heap) (R : Value → Heap → Prop) : Prop :=
  pAlloc P 40 h fun t2 h1 =>
  CallsH P 43 #[t0] h1 (fun t5 h2 =>
  pAlloc P 40 h2 fun t3 h3 =>
  pStore P 40 t3 t5 h3 fun h4 =>
  Loop0 h4 (fun C1 h5 =>
    CallsH P 44 #[t0, (str [45, 111])] h5 (fun t7 h6 =>
    boolV t7 fun b2 => bcase b2 (
      Stable h6 fun S3 =>
    pLoadS P 40 t3 S3 fun t8 =>
    (CallsH P 43 #[t0] h6 (fun t10 h7 =>
    S3 h7 ∧ ((CallsH P 25 #[(.int .i64 2), t8, t10] h7 (fun t11 h8 =>
    True ∧ ((pStore P 40 t3 t11 h8 fun h9 =>
    True ∧ (C1 h9)) ∧ True)) E) ∧ True)) E) ∧ True) (
      pLoad P 40 t3 h6 fun t12 =>
  pStore P 40 t2 t12 h6 fun h10 =>
  pLoad P 40 t2 h10 fun r4 => R r4 h10)) E)) E
theorem C23 {E : List PanicEntry → Heap → Prop} {t0 : Value} {h : Heap} {R : Value → Heap → Prop} (hs : S23 Tryz.prog E t0 h R) : CallsH Tryz.prog 23 #[t0] h R E :=
  calls_of_vc H23 Tryz.mixed Tryz.func23 rfl (by kernel_rfl) (by kernel_rfl) (Eq.mp (show S23 Tryz.prog E t0 h R = vcFun Tryz.prog H23 E Tryz.f23.results.toList _ [t0] h R from by kernel_rfl) hs)

def H24 : Hints := { r := fun _ => none, s := fun _ => none, l := fun _ => none, d := fun _ => none }
def S24 (P : Program) (E : List PanicEntry → Heap → Prop) (t0 t1 t2 : Value) (h : Heap) (R : Value → Heap → Prop) : Prop :=
  CallsH P 20 #[t1, t2] h (fun t8 h1 =>
  Reads P (Instr.build 58 #[(0, t8)]) h1 fun t9 =>
  Reads P (Instr.makeInterface 58 t9) h1 fun t10 =>
  Runs P (vS (Instr.panic t10)) h1 (fun u1 h2 =>
  R (.tuple #[]) h2) E) E
theorem C24 {E : List PanicEntry → Heap → Prop} {t0 t1 t2 : Value} {h : Heap} {R : Value → Heap → Prop} (hs : S24 Tryz.prog E t0 t1 t2 h R) : CallsH Tryz.prog 24 #[t0, t1, t2] h R E :=
  calls_of_vc H24 Tryz.mixed Tryz.func24 rfl (by kernel_rfl) (by kernel_rfl) (Eq.mp (show S24 Tryz.prog E t0 t1 t2 h R = vcFun Tryz.prog H24 E Tryz.f24.results.toList _ [t0, t1, t2] h R from by kernel_rfl) hs)

def H25 : Hints := { r := fun _ => none, s := fun _ => none, l := fun _ => none, d := fun _ => none }
def S25 (P : Program) (E : List PanicEntry → Heap → Prop) (t0 t1 t2 : Value) (h : Heap) (R : Value → Heap → Prop) : Prop :=
  pNew 40 t1 h fun t4 h1 =>
  pNew 40 t2 h1 fun t5 h2 =>
  pAlloc P 40 h2 fun t6 h3 =>
  pLoad P 40 t4 h3 fun t8 =>
  pLoad P 40 t5 h3 fun t9 =>
  Runs P (vS (Instr.buildSlice 38 2 #[(0, t8), (1, t9)])) h3 (fun t10 h4 =>
  Reads P (Instr.build 40 #[(0, t0), (6, t10)]) h4 fun t11 =>
  pStore P 40 t6 t11 h4 fun h5 =>
  pLoad P 40 t6 h5 fun r1 => R r1 h5) E
theorem C25 {E : List PanicEntry → Heap → Prop} {t0 t1 t2 : Value} {h : Heap} {R : Value → Heap → Prop} (hs : S25 Tryz.prog E t0 t1 t2 h R) : CallsH Tryz.prog 25 #[t0, t1, t2] h R E :=
  calls_of_vc H25 Tryz.mixed Tryz.func25 rfl (by kernel_rfl) (by kernel_rfl) (Eq.mp (show S25 Tryz.prog E t0 t1 t2 h R = vcFun Tryz.prog H25 E Tryz.f25.results.toList _ [t0, t1, t2] h R from by kernel_rfl) hs)

def H26 : Hints := { r := fun _ => none, s := fun i => match i with | 30 => some [3] | _ => none, l := fun i => match i with | 26 => some [3, 75] | 31 => some [3, 88] | _ => none, d := fun _ => none }
def S26 (P : Program) (E : List PanicEntry → Heap → Prop) (t0 : Value) (h : Heap) (R : Value → Heap → Prop) : Prop :=
  pNew 40 t0 h fun t1 h1 =>
  Join1 (fun J1 =>
    Reads P (Instr.fieldAt 40 t1 0) h1 fun t8 =>
    pLoad P 3 t8 h1 fun t9 =>
    Reads P (binS .eql 3 true t9 (.int .i64 9)) h1 fun t11 =>
    boolV t11 fun b2 => bcase b2 (
      R (str [112, 114, 117, 110, 101]) h1) (
      Reads P (binS .eql 3 true t9 (.int .i64 10)) h1 fun t13 =>
      boolV t13 fun b3 => bcase b3 (
        R (str [112, 114, 105, 110, 116]) h1) (
        Reads P (binS .eql 3 true t9 (.int .i64 1)) h1 fun t15 =>
        boolV t15 fun b4 => bcase b4 (
          Runs P (vS (Instr.buildSlice 22 1 #[(0, (str [97, 110, 100]))])) h1 (fun t17 h2 =>
          Runs P (builtin .append #[22, 22] 22 #[false, false] #[(.slice none 0 0), t17]) h2 (fun t18 h3 =>
          J1 t18 h3) E) E) (
          Reads P (binS .eql 3 true t9 (.int .i64 2)) h1 fun t20 =>
          boolV t20 fun b5 => bcase b5 (
            Runs P (vS (Instr.buildSlice 22 1 #[(0, (str [111, 114]))])) h1 (fun t22 h4 =>
            Runs P (builtin .append #[22, 22] 22 #[false, false] #[(.slice none 0 0), t22]) h4 (fun t23 h5 =>
            J1 t23 h5) E) E) (
            Reads P (binS .eql 3 true t9 (.int .i64 3)) h1 fun t25 =>
            boolV t25 fun b6 => bcase b6 (
              Runs P (vS (Instr.buildSlice 22 1 #[(0, (str [110, 111, 116]))])) h1 (fun t27 h6 =>
              Runs P (builtin .append #[22, 22] 22 #[false, false] #[(.slice none 0 0), t27]) h6 (fun t28 h7 =>
              J1 t28 h7) E) E) (
              Reads P (binS .eql 3 true t9 (.int .i64 4)) h1 fun t30 =>
              boolV t30 fun b7 => bcase b7 (
                Reads P (Instr.fieldAt 40 t1 1) h1 fun t32 =>
                pLoad P 9 t32 h1 fun t33 =>
                CallsH P 45 #[t33] h1 (fun t34 h8 =>
                Runs P (vS (Instr.buildSlice 22 2 #[(0, (str [110, 97, 109, 101])), (1, t34)])) h8 (fun t35 h9 =>
                Runs P (builtin .append #[22, 22] 22 #[false, false] #[(.slice none 0 0), t35]) h9 (fun t36 h10 =>
                J1 t36 h10) E) E) E) (
                Reads P (binS .eql 3 true t9 (.int .i64 5)) h1 fun t38 =>
                boolV t38 fun b8 => bcase b8 (
                  Reads P (Instr.fieldAt 40 t1 1) h1 fun t40 =>
                  pLoad P 9 t40 h1 fun t41 =>
                  CallsH P 45 #[t41] h1 (fun t42 h11 =>
                  Runs P (vS (Instr.buildSlice 22 2 #[(0, (str [116, 121, 112, 101])), (1, t42)])) h11 (fun t43 h12 =>
                  Runs P (builtin .append #[22, 22] 22 #[false, false] #[(.slice none 0 0), t43]) h12 (fun t44 h13 =>
                  J1 t44 h13) E) E) E) (
                  Reads P (binS .eql 3 true t9 (.int .i64 8)) h1 fun t46 =>
                  boolV t46 fun b9 => bcase b9 (
                    Reads P (Instr.fieldAt 40 t1 1) h1 fun t48 =>
                    pLoad P 9 t48 h1 fun t49 =>
                    CallsH P 45 #[t49] h1 (fun t50 h14 =>
                    Runs P (vS (Instr.buildSlice 22 2 #[(0, (str [110, 101, 119, 101, 114])), (1, t50)])) h14 (fun t51 h15 =>
                    Runs P (builtin .append #[22, 22] 22 #[false, false] #[(.slice none 0 0), t51]) h15 (fun t52 h16 =>
                    J1 t52 h16) E) E) E) (
                    Reads P (binS .eql 3 true t9 (.int .i64 6)) h1 fun t54 =>
                    boolV t54 fun b10 => bcase b10 (
                      pLoad P 40 t1 h1 fun t56 =>
                      CallsH P 46 #[t56] h1 (fun t57 h17 =>
                      Runs P (vS (Instr.buildSlice 22 2 #[(0, (str [115, 105, 122, 101])), (1, t57)])) h17 (fun t58 h18 =>
                      Runs P (builtin .append #[22, 22] 22 #[false, false] #[(.slice none 0 0), t58]) h18 (fun t59 h19 =>
                      J1 t59 h19) E) E) E) (
                      Reads P (binS .eql 3 true t9 (.int .i64 7)) h1 fun t61 =>
                      boolV t61 fun b11 => bcase b11 (
                        pLoad P 40 t1 h1 fun t63 =>
                        CallsH P 46 #[t63] h1 (fun t64 h20 =>
                        Runs P (vS (Instr.buildSlice 22 2 #[(0, (str [108, 105, 110, 107, 115])), (1, t64)])) h20 (fun t65 h21 =>
                        Runs P (builtin .append #[22, 22] 22 #[false, false] #[(.slice none 0 0), t65]) h21 (fun t66 h22 =>
                        J1 t66 h22) E) E) E) (
                        Reads P (binS .eql 3 true t9 (.int .i64 11)) h1 fun t68 =>
                        boolV t68 fun b12 => bcase b12 (
                          Runs P (vS (Instr.buildSlice 22 1 #[(0, (str [101, 120, 101, 99]))])) h1 (fun t70 h23 =>
                          Runs P (builtin .append #[22, 22] 22 #[false, false] #[(.slice none 0 0), t70]) h23 (fun t71 h24 =>
                          Reads P (Instr.fieldAt 40 t1 5) h24 fun t72 =>
                          pLoad P 22 t72 h24 fun t73 =>
                          Reads P (builtinS .len #[22] 3 #[t73]) h24 fun t74 =>
                          Loop2 t71 (.int .i64 0) h24 (fun C13 t3 t75 h25 =>
                            Reads P (binS .lss 3 false t75 t74) h25 fun t76 =>
                            boolV t76 fun b14 => bcase b14 (
                              Reads P (Instr.indexAt 22 t73 t75) h25 fun t77 =>
                            pLoad P 9 t77 h25 fun t78 =>
                            CallsH P 45 #[t78] h25 (fun t81 h26 =>
                            Runs P (vS (Instr.buildSlice 22 1 #[(0, t81)])) h26 (fun t82 h27 =>
                            Runs P (builtin .append #[22, 22] 22 #[false, false] #[t3, t82]) h27 (fun t83 h28 =>
                            Reads P (binS .add 3 true t75 (.int .i64 1)) h28 fun t84 =>
                            C13 t83 t84 h28) E) E) E) (
                              J1 t3 h25))) E) E) (
                          J1 (.slice none 0 0) h1))))))))))))
  (fun t3_2 h29 =>
  Reads P (Instr.fieldAt 40 t1 6) h29 fun t85 =>
  pLoad P 38 t85 h29 fun t86 =>
  Reads P (builtinS .len #[38] 3 #[t86]) h29 fun t87 =>
  Loop2 t3_2 (.int .i64 0) h29 (fun C15 t3_3 t88 h30 =>
    Reads P (binS .lss 3 false t88 t87) h30 fun t89 =>
    boolV t89 fun b16 => bcase b16 (
      Reads P (Instr.indexAt 38 t86 t88) h30 fun t90 =>
    pLoad P 40 t90 h30 fun t91 =>
    pAlloc P 40 h30 fun t7 h31 =>
    pStore P 40 t7 t91 h31 fun h32 =>
    pLoad P 40 t7 h32 fun t93 =>
    CallsH P 26 #[t93] h32 (fun t94 h33 =>
    Runs P (vS (Instr.buildSlice 22 1 #[(0, t94)])) h33 (fun t95 h34 =>
    Runs P (builtin .append #[22, 22] 22 #[false, false] #[t3_3, t95]) h34 (fun t96 h35 =>
    Reads P (binS .add 3 true t88 (.int .i64 1)) h35 fun t97 =>
    C15 t96 t97 h35) E) E) E) (
      CallsH P 47 #[t3_3, (str [32])] h30 (fun t99 h36 =>
  Reads P (binS .add 9 true (str [40]) t99) h36 fun t100 =>
  Reads P (binS .add 9 true t100 (str [41])) h36 fun t101 =>
  R t101 h36) E)))
theorem C26 {E : List PanicEntry → Heap → Prop} {t0 : Value} {h : Heap} {R : Value → Heap → Prop} (hs : S26 Tryz.prog E t0 h R) : CallsH Tryz.prog 26 #[t0] h R E :=
  calls_of_vc H26 Tryz.mixed Tryz.func26 rfl (by kernel_rfl) (by kernel_rfl) (Eq.mp (show S26 Tryz.prog E t0 h R = vcFun Tryz.prog H26 E Tryz.f26.results.toList _ [t0] h R from by kernel_rfl) hs)

def H31 : Hints := { r := fun _ => none, s := fun _ => none, l := fun _ => none, d := fun _ => none }
def S31 (P : Program) (E : List PanicEntry → Heap → Prop) (t0 t1 : Value) (h : Heap) (R : Value → Heap → Prop) : Prop :=
  CallsH P 38 #[t1] h (fun t7 h1 =>
  Reads P (binS .neq 26 true t0 .nilIface) h1 fun t9 =>
  boolV t9 fun b1 => bcase b1 (
  Reads P (binS .neq 26 true t7 .nilIface) h1 fun t12 =>
  boolV t12 fun b2 => bcase b2 (
  CallsH P 51 #[t0, t7] h1 (fun t17 h2 =>
  R t17 h2) E) (
  R (.bool false) h1)) (
  R (.bool false) h1)) E
theorem C31 {E : List PanicEntry → Heap → Prop} {t0 t1 : Value} {h : Heap} {R : Value → Heap → Prop} (hs : S31 Tryz.prog E t0 t1 h R) : CallsH Tryz.prog 31 #[t0, t1] h R E :=
  calls_of_vc H31 Tryz.mixed Tryz.func31 rfl (by kernel_rfl) (by kernel_rfl) (Eq.mp (show S31 Tryz.prog E t0 t1 h R = vcFun Tryz.prog H31 E Tryz.f31.results.toList _ [t0, t1] h R from by kernel_rfl) hs)

def H33 : Hints := { r := fun _ => none, s := fun _ => none, l := fun i => match i with | 4 => some [11] | _ => none, d := fun i => match i with | 6 => some (.cut 2 (.take 0 (.take 1 (.take 2 (.act 3 (.act 4 (.cut 0 (.act 5 (.cut 1 (.take 6 (.cut 0 (.act 7 .done .stop)))) .stop)) .stop) .stop))))) | _ => none }
def S33 (P : Program) (E : List PanicEntry → Heap → Prop) (t0 : Value) (h : Heap) (R : Value → Heap → Prop) : Prop :=
  pNew 40 t0 h fun t1 h1 =>
  pAlloc P 40 h1 fun t2 h2 =>
  Reads P (Instr.fieldAt 40 t1 6) h2 fun t6 =>
  pLoad P 38 t6 h2 fun t7 =>
  Reads P (Instr.fieldAt 40 t1 6) h2 fun t8 =>
  pStore P 38 t8 (.slice none 0 0) h2 fun h3 =>
  Reads P (builtinS .len #[38] 3 #[t7]) h3 fun t10 =>
  Loop1 (.int .i64 0) h3 (fun C1 t11 h4 =>
    Reads P (binS .lss 3 false t11 t10) h4 fun t12 =>
    boolV t12 fun b2 => bcase b2 (
      Reads P (Instr.indexAt 38 t7 t11) h4 fun t13 =>
    pLoad P 40 t13 h4 fun t14 =>
    pAlloc P 40 h4 fun t5 h5 =>
    pStore P 40 t5 t14 h5 fun h6 =>
    Stable h6 fun S3 =>
    ReadsS P (Instr.fieldAt 40 t1 6) S3 fun t15 =>
    pLoadS P 38 t15 S3 fun t16 =>
    pLoadS P 40 t5 S3 fun t17 =>
    (CallsH P 33 #[t17] h6 (fun t18 h7 =>
    S3 h7 ∧ ((Runs P (vS (Instr.buildSlice 38 1 #[(0, t18)])) h7 (fun t19 h8 =>
    S3 h8 ∧ ((Runs P (builtin .append #[38, 38] 38 #[false, false] #[t16, t19]) h8 (fun t20 h9 =>
    True ∧ (Reads P (Instr.fieldAt 40 t1 6) h9 fun t21 =>
    (pStore P 38 t21 t20 h9 fun h10 =>
    True ∧ (Reads P (binS .add 3 true t11 (.int .i64 1)) h10 fun t22 =>
    C1 t22 h10)) ∧ True)) E) ∧ True)) E) ∧ True)) E) ∧ True) (
      Reads P (Instr.fieldAt 40 t1 5) h4 fun t23 =>
  pLoad P 22 t23 h4 fun t24 =>
  Runs P (builtin .append #[22, 22] 22 #[true, false] #[(.slice none 0 0), t24]) h4 (fun t25 h11 =>
  Reads P (Instr.fieldAt 40 t1 5) h11 fun t26 =>
  pStore P 22 t26 t25 h11 fun h12 =>
  pLoad P 40 t1 h12 fun t27 =>
  pStore P 40 t2 t27 h12 fun h13 =>
  pLoad P 40 t2 h13 fun r4 => R r4 h13) E))
theorem C33 {E : List PanicEntry → Heap → Prop} {t0 : Value} {h : Heap} {R : Value → Heap → Prop} (hs : S33 Tryz.prog E t0 h R) : CallsH Tryz.prog 33 #[t0] h R E :=
  calls_of_vc H33 Tryz.mixed Tryz.func33 rfl (by kernel_rfl) (by kernel_rfl) (Eq.mp (show S33 Tryz.prog E t0 h R = vcFun Tryz.prog H33 E Tryz.f33.results.toList _ [t0] h R from by kernel_rfl) hs)

def H36 : Hints := { r := fun _ => none, s := fun _ => none, l := fun _ => none, d := fun _ => none }
def S36 (P : Program) (E : List PanicEntry → Heap → Prop) (t0 t1 : Value) (h : Heap) (R : Value → Heap → Prop) : Prop :=
  Reads P (binS .eql 26 true t0 .nilIface) h fun t6 =>
  boolV t6 fun b1 => bcase b1 (
    R .nilIface h) (
    Reads P (Instr.build 79 #[(0, t0), (1, t1)]) h fun t9 =>
  pNew 79 t9 h fun t10 h1 =>
  Reads P (Instr.makeInterface 76 t10) h1 fun t11 =>
  R t11 h1)
theorem C36 {E : List PanicEntry → Heap → Prop} {t0 t1 : Value} {h : Heap} {R : Value → Heap → Prop} (hs : S36 Tryz.prog E t0 t1 h R) : CallsH Tryz.prog 36 #[t0, t1] h R E :=
  calls_of_vc H36 Tryz.mixed Tryz.func36 rfl (by kernel_rfl) (by kernel_rfl) (Eq.mp (show S36 Tryz.prog E t0 t1 h R = vcFun Tryz.prog H36 E Tryz.f36.results.toList _ [t0, t1] h R from by kernel_rfl) hs)

def H37 : Hints := { r := fun _ => none, s := fun _ => none, l := fun _ => none, d := fun _ => none }
def S37 (P : Program) (E : List PanicEntry → Heap → Prop) (t0 t1 : Value) (h : Heap) (R : Value → Heap → Prop) : Prop :=
  Reads P (binS .eql 26 true t0 .nilIface) h fun t6 =>
  boolV t6 fun b1 => bcase b1 (
    R .nilIface h) (
    Reads P (Instr.build 75 #[(0, t0), (1, t1)]) h fun t9 =>
  pNew 75 t9 h fun t10 h1 =>
  Reads P (Instr.makeInterface 72 t10) h1 fun t11 =>
  R t11 h1)
theorem C37 {E : List PanicEntry → Heap → Prop} {t0 t1 : Value} {h : Heap} {R : Value → Heap → Prop} (hs : S37 Tryz.prog E t0 t1 h R) : CallsH Tryz.prog 37 #[t0, t1] h R E :=
  calls_of_vc H37 Tryz.mixed Tryz.func37 rfl (by kernel_rfl) (by kernel_rfl) (Eq.mp (show S37 Tryz.prog E t0 t1 h R = vcFun Tryz.prog H37 E Tryz.f37.results.toList _ [t0, t1] h R from by kernel_rfl) hs)

def H38 : Hints := { r := fun _ => none, s := fun _ => none, l := fun _ => none, d := fun _ => none }
def S38 (P : Program) (E : List PanicEntry → Heap → Prop) (t0 : Value) (h : Heap) (R : Value → Heap → Prop) : Prop :=
  Reads P (binS .eql 3 true t0 (.int .i64 1)) h fun t5 =>
  boolV t5 fun b1 => bcase b1 (
    pLoad P 26 (.pointer (some ⟨1, 0, none⟩)) h fun t6 =>
    R t6 h) (
    Reads P (binS .eql 3 true t0 (.int .i64 2)) h fun t8 =>
    boolV t8 fun b2 => bcase b2 (
      pLoad P 26 (.pointer (some ⟨2, 0, none⟩)) h fun t9 =>
      R t9 h) (
      Reads P (binS .eql 3 true t0 (.int .i64 3)) h fun t11 =>
      boolV t11 fun b3 => bcase b3 (
        pLoad P 26 (.pointer (some ⟨3, 0, none⟩)) h fun t12 =>
        R t12 h) (
        Reads P (binS .eql 3 true t0 (.int .i64 4)) h fun t14 =>
        boolV t14 fun b4 => bcase b4 (
          pLoad P 26 (.pointer (some ⟨4, 0, none⟩)) h fun t15 =>
          R t15 h) (
          Reads P (binS .eql 3 true t0 (.int .i64 5)) h fun t17 =>
          boolV t17 fun b5 => bcase b5 (
            pLoad P 26 (.pointer (some ⟨5, 0, none⟩)) h fun t18 =>
            R t18 h) (
            Reads P (binS .eql 3 true t0 (.int .i64 6)) h fun t20 =>
            boolV t20 fun b6 => bcase b6 (
              pLoad P 26 (.pointer (some ⟨6, 0, none⟩)) h fun t21 =>
              R t21 h) (
              Reads P (binS .eql 3 true t0 (.int .i64 7)) h fun t23 =>
              boolV t23 fun b7 => bcase b7 (
                pLoad P 26 (.pointer (some ⟨7, 0, none⟩)) h fun t24 =>
                R t24 h) (
                Reads P (binS .eql 3 true t0 (.int .i64 8)) h fun t26 =>
                boolV t26 fun b8 => bcase b8 (
                  pLoad P 26 (.pointer (some ⟨8, 0, none⟩)) h fun t27 =>
                  R t27 h) (
                  Reads P (binS .eql 3 true t0 (.int .i64 9)) h fun t29 =>
                  boolV t29 fun b9 => bcase b9 (
                    pLoad P 26 (.pointer (some ⟨9, 0, none⟩)) h fun t30 =>
                    R t30 h) (
                    Reads P (binS .eql 3 true t0 (.int .i64 10)) h fun t32 =>
                    boolV t32 fun b10 => bcase b10 (
                      pLoad P 26 (.pointer (some ⟨10, 0, none⟩)) h fun t33 =>
                      R t33 h) (
                      CallsH P 54 #[t0] h (fun t35 h1 =>
  R t35 h1) E))))))))))
theorem C38 {E : List PanicEntry → Heap → Prop} {t0 : Value} {h : Heap} {R : Value → Heap → Prop} (hs : S38 Tryz.prog E t0 h R) : CallsH Tryz.prog 38 #[t0] h R E :=
  calls_of_vc H38 Tryz.mixed Tryz.func38 rfl (by kernel_rfl) (by kernel_rfl) (Eq.mp (show S38 Tryz.prog E t0 h R = vcFun Tryz.prog H38 E Tryz.f38.results.toList _ [t0] h R from by kernel_rfl) hs)

def H42 : Hints := { r := fun _ => none, s := fun i => match i with | 7 => some [] | _ => none, l := fun i => match i with | 1 => some [0] | 18 => some [50] | _ => none, d := fun _ => none }
def S42 (P : Program) (E : List PanicEntry → Heap → Prop) (t0 t1 t2 t3 : Value) (h : Heap) (R : Value → Heap → Prop) : Prop :=
  pNew 87 t2 h fun t6 h1 =>
  Loop1 t0 h1 (fun C1 t0_2 h2 =>
    Runs P ((do let d ← Deferred.ofValue (.func (.func 55) #[] #[]) #[t0_2]; invoke d.target d.args)) h2 (fun t17 h3 =>
    Runs P (invoke (.fn (.method "AssignableTo") #[]) (#[t17] ++ #[t3])) h3 (fun t19 h4 =>
    boolV t19 fun b2 => bcase b2 (
      pLoad P 87 t6 h4 fun t20 =>
      Runs P ((do let d ← Deferred.ofValue (.func (.func 56) #[] #[]) #[t20]; invoke d.target d.args)) h4 (fun t21 h5 =>
      Runs P ((do let d ← Deferred.ofValue (.func (.func 39) #[] #[]) #[t0_2]; invoke d.target d.args)) h5 (fun t23 h6 =>
      Runs P ((do let d ← Deferred.ofValue (.func (.func 57) #[] #[]) #[t21, t23]; invoke d.target d.args)) h6 (fun t24 h7 =>
      R (.bool true) h7) E) E) E) (
      Join0 (fun J3 =>
      Reads P (Instr.typeAssert t0_2 26 106 true) h4 fun t27 =>
      Reads P (Instr.extract t27 0) h4 fun t28 =>
      Reads P (Instr.extract t27 1) h4 fun t29 =>
      boolV t29 fun b4 => bcase b4 (
      Runs P (invoke (.fn (.method "As") #[]) (#[t28] ++ #[t1])) h4 (fun t34 h8 =>
      boolV t34 fun b5 => bcase b5 (
        R (.bool true) h8) (
        J3 h8)) E) (
      J3 h4))
    (fun h9 =>
    Reads P (Instr.typeAssert t0_2 26 109 true) h9 fun t37 =>
    Reads P (Instr.extract t37 1) h9 fun t38 =>
    Reads P (Instr.extract t37 0) h9 fun t39 =>
    boolV t38 fun b6 => bcase b6 (
      Runs P (invoke (.fn (.method "Unwrap") #[]) (#[t39] ++ #[])) h9 (fun t41 h10 =>
      Reads P (binS .eql 26 true t41 .nilIface) h10 fun t43 =>
      boolV t43 fun b7 => bcase b7 (
        R (.bool false) h10) (
        C1 t41 h10)) E) (
      Reads P (Instr.typeAssert t0_2 26 111 true) h9 fun t44 =>
      Reads P (Instr.extract t44 1) h9 fun t45 =>
      Reads P (Instr.extract t44 0) h9 fun t46 =>
      boolV t45 fun b8 => bcase b8 (
        Runs P (invoke (.fn (.method "Unwrap") #[]) (#[t46] ++ #[])) h9 (fun t48 h11 =>
        Reads P (builtinS .len #[112] 3 #[t48]) h11 fun t49 =>
        Loop1 (.int .i64 0) h11 (fun C9 t50 h12 =>
          Reads P (binS .lss 3 false t50 t49) h12 fun t51 =>
          boolV t51 fun b10 => bcase b10 (
            Reads P (Instr.indexAt 112 t48 t50) h12 fun t52 =>
          pLoad P 26 t52 h12 fun t53 =>
          Reads P (binS .eql 26 true t53 .nilIface) h12 fun t55 =>
          boolV t55 fun b11 => bcase b11 (
            Reads P (binS .add 3 true t50 (.int .i64 1)) h12 fun t61 =>
          C9 t61 h12) (
            pLoad P 87 t6 h12 fun t58 =>
          CallsH P 42 #[t53, t1, t58, t3] h12 (fun t60 h13 =>
          boolV t60 fun b12 => bcase b12 (
            R (.bool true) h13) (
            Reads P (binS .add 3 true t50 (.int .i64 1)) h13 fun t61_2 =>
          C9 t61_2 h13)) E)) (
            R (.bool false) h12))) E) (
        R (.bool false) h9))))) E) E)
theorem C42 {E : List PanicEntry → Heap → Prop} {t0 t1 t2 t3 : Value} {h : Heap} {R : Value → Heap → Prop} (hs : S42 Tryz.prog E t0 t1 t2 t3 h R) : CallsH Tryz.prog 42 #[t0, t1, t2, t3] h R E :=
  calls_of_vc H42 Tryz.mixed Tryz.func42 rfl (by kernel_rfl) (by kernel_rfl) (Eq.mp (show S42 Tryz.prog E t0 t1 t2 t3 h R = vcFun Tryz.prog H42 E Tryz.f42.results.toList _ [t0, t1, t2, t3] h R from by kernel_rfl) hs)

def H43 : Hints := { r := fun _ => none, s := fun i => match i with | 4 => some [] | _ => none, l := fun i => match i with | 2 => some [] | _ => none, d := fun i => match i with | 2 => some (.cut 1 (.take 0 (.cut 0 (.act 1 (.cut 1 (.take 2 (.take 3 (.take 4 (.take 5 (.take 6 (.take 7 (.take 8 (.take 9 (.take 10 (.take 11 (.take 12 (.take 13 (.take 14 (.take 15 (.cut 0 (.act 16 (.cut 1 (.take 17 (.take 18 (.take 19 (.cut 0 (.act 20 (.cut 1 (.take 21 (.take 22 .done))) .stop)))))) .stop))))))))))))))))) .stop)))) | 4 => some (.cut 2 (.take 0 (.take 1 (.act 2 (.cut 0 (.act 3 (.cut 0 (.act 4 .done .stop)) .stop)) .stop)))) | _ => none }
def S43 (P : Program) (E : List PanicEntry → Heap → Prop) (t0 : Value) (h : Heap) (R : Value → Heap → Prop) : Prop :=
  pAlloc P 40 h fun t2 h1 =>
  CallsH P 58 #[t0] h1 (fun t5 h2 =>
  pAlloc P 40 h2 fun t3 h3 =>
  pStore P 40 t3 t5 h3 fun h4 =>
  Loop0 h4 (fun C1 h5 =>
    Join0 (fun J2 =>
      (CallsH P 44 #[t0, (str [45, 97])] h5 (fun t7 h6 =>
      True ∧ (Reads P (Op.unary .not t7) h6 fun t8 =>
      boolV t8 fun b3 => bcase b3 (
      Reads P (nilS t0) h6 fun t11 =>
      Reads P (Instr.fieldAt 63 t11 1) h6 fun t12 =>
      pLoad P 3 t12 h6 fun t13 =>
      Reads P (nilS t0) h6 fun t15 =>
      Reads P (Instr.fieldAt 63 t15 0) h6 fun t16 =>
      pLoad P 22 t16 h6 fun t17 =>
      Reads P (builtinS .len #[22] 3 #[t17]) h6 fun t18 =>
      Reads P (binS .geq 3 false t13 t18) h6 fun t19 =>
      boolV t19 fun b4 => bcase b4 (
      ((pLoad P 40 t3 h6 fun t29 =>
      pStore P 40 t2 t29 h6 fun h7 =>
      pLoad P 40 t2 h7 fun r5 => R r5 h7) ∧ True) ∧ True) (
      (CallsH P 59 #[t0, (str [45, 111])] h6 (fun t22 h8 =>
      True ∧ (boolV t22 fun b6 => bcase b6 (
      (pLoad P 40 t3 h8 fun t29_2 =>
      pStore P 40 t2 t29_2 h8 fun h9 =>
      pLoad P 40 t2 h9 fun r7 => R r7 h9) ∧ True) (
      (CallsH P 59 #[t0, (str [41])] h8 (fun t26 h10 =>
      True ∧ (boolV t26 fun b8 => bcase b8 (
        pLoad P 40 t3 h10 fun t29_3 =>
        pStore P 40 t2 t29_3 h10 fun h11 =>
        pLoad P 40 t2 h11 fun r9 => R r9 h11) (
        J2 h10))) E) ∧ True))) E) ∧ True)) (
      (undef = undef ∧ (((undef = undef ∧ ((undef = undef ∧ (((undef = undef ∧ (J2 h6))) ∧ True))))) ∧ True))))) E) ∧ True)
    (fun h12 =>
    Stable h12 fun S10 =>
    pLoadS P 40 t3 S10 fun t30 =>
    (CallsH P 58 #[t0] h12 (fun t32 h13 =>
    S10 h13 ∧ ((CallsH P 25 #[(.int .i64 1), t30, t32] h13 (fun t33 h14 =>
    True ∧ ((pStore P 40 t3 t33 h14 fun h15 =>
    True ∧ (C1 h15)) ∧ True)) E) ∧ True)) E) ∧ True))) E
theorem C43 {E : List PanicEntry → Heap → Prop} {t0 : Value} {h : Heap} {R : Value → Heap → Prop} (hs : S43 Tryz.prog E t0 h R) : CallsH Tryz.prog 43 #[t0] h R E :=
  calls_of_vc H43 Tryz.mixed Tryz.func43 rfl (by kernel_rfl) (by kernel_rfl) (Eq.mp (show S43 Tryz.prog E t0 h R = vcFun Tryz.prog H43 E Tryz.f43.results.toList _ [t0] h R from by kernel_rfl) hs)

def H44 : Hints := { r := fun _ => none, s := fun _ => none, l := fun _ => none, d := fun _ => none }
def S44 (P : Program) (E : List PanicEntry → Heap → Prop) (t0 t1 : Value) (h : Heap) (R : Value → Heap → Prop) : Prop :=
  CallsH P 59 #[t0, t1] h (fun t8 h1 =>
  boolV t8 fun b1 => bcase b1 (
    Reads P (nilS t0) h1 fun t11 =>
    Reads P (Instr.fieldAt 63 t11 1) h1 fun t12 =>
    pLoad P 3 t12 h1 fun t13 =>
    Reads P (binS .add 3 true t13 (.int .i64 1)) h1 fun t14 =>
    Reads P (nilS t0) h1 fun t15 =>
    Reads P (Instr.fieldAt 63 t15 1) h1 fun t16 =>
    pStore P 3 t16 t14 h1 fun h2 =>
    R t8 h2) (
    R t8 h1)) E
theorem C44 {E : List PanicEntry → Heap → Prop} {t0 t1 : Value} {h : Heap} {R : Value → Heap → Prop} (hs : S44 Tryz.prog E t0 t1 h R) : CallsH Tryz.prog 44 #[t0, t1] h R E :=
  calls_of_vc H44 Tryz.mixed Tryz.func44 rfl (by kernel_rfl) (by kernel_rfl) (Eq.mp (show S44 Tryz.prog E t0 t1 h R = vcFun Tryz.prog H44 E Tryz.f44.results.toList _ [t0, t1] h R from by kernel_rfl) hs)

def H45 : Hints := { r := fun _ => none, s := fun _ => none, l := fun i => match i with | 3 => some [7] | _ => none, d := fun i => match i with | 5 => some (.cut 0 (.take 0 (.take 1 (.take 2 (.take 3 (.take 4 (.take 6 (.take 7 (.take 8 (.take 9 (.take 10 (.act 5 (.cut 0 (.act 11 (.cut 1 (.take 12 (.cut 0 (.act 13 .done .stop)))) .stop)) .stop)))))))))))) | _ => none }
def S45 (P : Program) (E : List PanicEntry → Heap → Prop) (t0 : Value) (h : Heap) (R : Value → Heap → Prop) : Prop :=
  pAlloc P 117 h fun t3 h1 =>
  Reads P (builtinS .len #[9] 3 #[t0]) h1 fun t6 =>
  Loop1 (.int .i64 0) h1 (fun C1 t7 h2 =>
    Reads P (binS .lss 3 false t7 t6) h2 fun t8 =>
    boolV t8 fun b2 => bcase b2 (
      ReadsS P (Instr.index 9 t0 t7) (fun _ => True) fun t12 =>
    ReadsS P (binS .shr 5 true t12 (.int .u64 4)) (fun _ => True) fun t13 =>
    ReadsS P (convert 5 121 t13) (fun _ => True) fun t14 =>
    ReadsS P (Instr.index 9 t0 t7) (fun _ => True) fun t18 =>
    ReadsS P (binS .and 5 true t18 (.int .u8 15)) (fun _ => True) fun t19 =>
    ReadsS P (convert 5 121 t19) (fun _ => True) fun t20 =>
    (CallsH P 61 #[t14, (.int .i64 16), (.bool false)] h2 (fun t15 h3 =>
    True ∧ ((CallsH P 61 #[t20, (.int .i64 16), (.bool false)] h3 (fun t21 h4 =>
    True ∧ (Reads P (binS .add 9 false t15 t21) h4 fun t22 =>
    (CallsH P 60 #[t3, t22] h4 (fun t23 h5 =>
    True ∧ (Reads P (binS .add 3 true t7 (.int .i64 1)) h5 fun t24 =>
    C1 t24 h5)) E) ∧ True)) E) ∧ True)) E) ∧ True) (
      CallsH P 62 #[t3] h2 (fun t25 h6 =>
  Reads P (binS .add 9 true (str [34]) t25) h6 fun t26 =>
  Reads P (binS .add 9 true t26 (str [34])) h6 fun t27 =>
  R t27 h6) E))
theorem C45 {E : List PanicEntry → Heap → Prop} {t0 : Value} {h : Heap} {R : Value → Heap → Prop} (hs : S45 Tryz.prog E t0 h R) : CallsH Tryz.prog 45 #[t0] h R E :=
  calls_of_vc H45 Tryz.mixed Tryz.func45 rfl (by kernel_rfl) (by kernel_rfl) (Eq.mp (show S45 Tryz.prog E t0 h R = vcFun Tryz.prog H45 E Tryz.f45.results.toList _ [t0] h R from by kernel_rfl) hs)

def H46 : Hints := { r := fun _ => none, s := fun i => match i with | 7 => some [3] | _ => none, l := fun _ => none, d := fun _ => none }
def S46 (P : Program) (E : List PanicEntry → Heap → Prop) (t0 : Value) (h : Heap) (R : Value → Heap → Prop) : Prop :=
  pNew 40 t0 h fun t1 h1 =>
  Reads P (Instr.fieldAt 40 t1 3) h1 fun t4 =>
  pLoad P 2 t4 h1 fun t5 =>
  CallsH P 63 #[t5] h1 (fun t6 h2 =>
  Join1 (fun J1 =>
    Reads P (Instr.fieldAt 40 t1 2) h2 fun t7 =>
    pLoad P 3 t7 h2 fun t8 =>
    Reads P (binS .eql 3 true t8 (.int .i64 1)) h2 fun t10 =>
    boolV t10 fun b2 => bcase b2 (
      Reads P (binS .add 9 true (str [43]) t6) h2 fun t12 =>
      J1 t12 h2) (
      Reads P (binS .eql 3 true t8 (.int .i64 (-1))) h2 fun t14 =>
      boolV t14 fun b3 => bcase b3 (
        Reads P (binS .add 9 true (str [45]) t6) h2 fun t16 =>
        J1 t16 h2) (
        J1 t6 h2)))
  (fun t3 h3 =>
  Reads P (Instr.fieldAt 40 t1 4) h3 fun t17 =>
  pLoad P 4 t17 h3 fun t18 =>
  boolV t18 fun b4 => bcase b4 (
    Reads P (binS .add 9 true t3 (str [99])) h3 fun t20 =>
    R t20 h3) (
    R t3 h3))) E
theorem C46 {E : List PanicEntry → Heap → Prop} {t0 : Value} {h : Heap} {R : Value → Heap → Prop} (hs : S46 Tryz.prog E t0 h R) : CallsH Tryz.prog 46 #[t0] h R E :=
  calls_of_vc H46 Tryz.mixed Tryz.func46 rfl (by kernel_rfl) (by kernel_rfl) (Eq.mp (show S46 Tryz.prog E t0 h R = vcFun Tryz.prog H46 E Tryz.f46.results.toList _ [t0] h R from by kernel_rfl) hs)

def H51 : Hints := { r := fun _ => none, s := fun i => match i with | 3 => some [] | _ => none, l := fun _ => none, d := fun _ => none }
def S51 (P : Program) (E : List PanicEntry → Heap → Prop) (t0 t1 : Value) (h : Heap) (R : Value → Heap → Prop) : Prop :=
  Join0 (fun J1 =>
    Reads P (binS .eql 26 true t0 .nilIface) h fun t7 =>
    boolV t7 fun b2 => bcase b2 (
    Reads P (binS .eql 26 false t0 t1) h fun t14 =>
    R t14 h) (
    Reads P (binS .eql 26 true t1 .nilIface) h fun t10 =>
    boolV t10 fun b3 => bcase b3 (
      Reads P (binS .eql 26 false t0 t1) h fun t14_2 =>
      R t14_2 h) (
      J1 h)))
  (fun h1 =>
  Runs P ((do let d ← Deferred.ofValue (.func (.func 55) #[] #[]) #[t1]; invoke d.target d.args)) h1 (fun t16 h2 =>
  Runs P (invoke (.fn (.method "Comparable") #[]) (#[t16] ++ #[])) h2 (fun t17 h3 =>
  CallsH P 66 #[t0, t1, t17] h3 (fun t21 h4 =>
  R t21 h4) E) E) E)
theorem C51 {E : List PanicEntry → Heap → Prop} {t0 t1 : Value} {h : Heap} {R : Value → Heap → Prop} (hs : S51 Tryz.prog E t0 t1 h R) : CallsH Tryz.prog 51 #[t0, t1] h R E :=
  calls_of_vc H51 Tryz.mixed Tryz.func51 rfl (by kernel_rfl) (by kernel_rfl) (Eq.mp (show S51 Tryz.prog E t0 t1 h R = vcFun Tryz.prog H51 E Tryz.f51.results.toList _ [t0, t1] h R from by kernel_rfl) hs)

def H54 : Hints := { r := fun _ => none, s := fun _ => none, l := fun _ => none, d := fun _ => none }
def S54 (P : Program) (E : List PanicEntry → Heap → Prop) (t0 : Value) (h : Heap) (R : Value → Heap → Prop) : Prop :=
  Reads P (binS .eql 3 true t0 (.int .i64 11)) h fun t5 =>
  boolV t5 fun b1 => bcase b1 (
    pLoad P 26 (.pointer (some ⟨11, 0, none⟩)) h fun t6 =>
    R t6 h) (
    Reads P (binS .eql 3 true t0 (.int .i64 12)) h fun t8 =>
    boolV t8 fun b2 => bcase b2 (
      pLoad P 26 (.pointer (some ⟨12, 0, none⟩)) h fun t9 =>
      R t9 h) (
      Reads P (binS .eql 3 true t0 (.int .i64 13)) h fun t11 =>
      boolV t11 fun b3 => bcase b3 (
        pLoad P 26 (.pointer (some ⟨13, 0, none⟩)) h fun t12 =>
        R t12 h) (
        Reads P (binS .eql 3 true t0 (.int .i64 14)) h fun t14 =>
        boolV t14 fun b4 => bcase b4 (
          pLoad P 26 (.pointer (some ⟨14, 0, none⟩)) h fun t15 =>
          R t15 h) (
          Reads P (binS .eql 3 true t0 (.int .i64 15)) h fun t17 =>
          boolV t17 fun b5 => bcase b5 (
            pLoad P 26 (.pointer (some ⟨15, 0, none⟩)) h fun t18 =>
            R t18 h) (
            Reads P (binS .eql 3 true t0 (.int .i64 16)) h fun t20 =>
            boolV t20 fun b6 => bcase b6 (
              pLoad P 26 (.pointer (some ⟨16, 0, none⟩)) h fun t21 =>
              R t21 h) (
              Reads P (binS .eql 3 true t0 (.int .i64 17)) h fun t23 =>
              boolV t23 fun b7 => bcase b7 (
                pLoad P 26 (.pointer (some ⟨17, 0, none⟩)) h fun t24 =>
                R t24 h) (
                Reads P (binS .eql 3 true t0 (.int .i64 18)) h fun t26 =>
                boolV t26 fun b8 => bcase b8 (
                  pLoad P 26 (.pointer (some ⟨18, 0, none⟩)) h fun t27 =>
                  R t27 h) (
                  Reads P (binS .eql 3 true t0 (.int .i64 19)) h fun t29 =>
                  boolV t29 fun b9 => bcase b9 (
                    pLoad P 26 (.pointer (some ⟨19, 0, none⟩)) h fun t30 =>
                    R t30 h) (
                    Reads P (binS .eql 3 true t0 (.int .i64 20)) h fun t32 =>
                    boolV t32 fun b10 => bcase b10 (
                      pLoad P 26 (.pointer (some ⟨20, 0, none⟩)) h fun t33 =>
                      R t33 h) (
                      Reads P (binS .eql 3 true t0 (.int .i64 21)) h fun t35 =>
                      boolV t35 fun b11 => bcase b11 (
                        pLoad P 26 (.pointer (some ⟨21, 0, none⟩)) h fun t36 =>
                        R t36 h) (
                        R .nilIface h)))))))))))
theorem C54 {E : List PanicEntry → Heap → Prop} {t0 : Value} {h : Heap} {R : Value → Heap → Prop} (hs : S54 Tryz.prog E t0 h R) : CallsH Tryz.prog 54 #[t0] h R E :=
  calls_of_vc H54 Tryz.mixed Tryz.func54 rfl (by kernel_rfl) (by kernel_rfl) (Eq.mp (show S54 Tryz.prog E t0 h R = vcFun Tryz.prog H54 E Tryz.f54.results.toList _ [t0] h R from by kernel_rfl) hs)

def H58 : Hints := { r := fun _ => none, s := fun i => match i with | 11 => some [] | 36 => some [117] | 42 => some [] | _ => none, l := fun _ => none, d := fun i => match i with | 29 => some (.cut 2 (.take 0 (.take 1 (.take 4 (.take 5 (.take 6 (.take 7 (.take 8 (.act 2 (.take 3 (.cut 0 (.act 9 .done .stop))) .stop))))))))) | _ => none }
def S58 (P : Program) (E : List PanicEntry → Heap → Prop) (t0 : Value) (h : Heap) (R : Value → Heap → Prop) : Prop :=
  pAlloc P 40 h fun t2 h1 =>
  Reads P (nilS t0) h1 fun t9 =>
  Reads P (Instr.fieldAt 63 t9 1) h1 fun t10 =>
  pLoad P 3 t10 h1 fun t11 =>
  Join0 (fun J1 =>
    CallsH P 68 #[t0] h1 (fun t13 h2 =>
    Reads P (binS .eql 9 true t13 (str [33])) h2 fun t16 =>
    boolV t16 fun b2 => bcase b2 (
      CallsH P 58 #[t0] h2 (fun t18 h3 =>
      Runs P (vS (Instr.buildSlice 38 1 #[(0, t18)])) h3 (fun t19 h4 =>
      Reads P (Instr.build 40 #[(0, (.int .i64 3)), (6, t19)]) h4 fun t20 =>
      pStore P 40 t2 t20 h4 fun h5 =>
      pLoad P 40 t2 h5 fun r3 => R r3 h5) E) E) (
      Reads P (binS .eql 9 true t13 (str [40])) h2 fun t22 =>
      boolV t22 fun b4 => bcase b4 (
        Reads P (nilS t0) h2 fun t24 =>
        Reads P (Instr.fieldAt 63 t24 2) h2 fun t25 =>
        pLoad P 3 t25 h2 fun t26 =>
        Reads P (binS .add 3 true t26 (.int .i64 1)) h2 fun t27 =>
        Reads P (nilS t0) h2 fun t28 =>
        Reads P (Instr.fieldAt 63 t28 2) h2 fun t29 =>
        pStore P 3 t29 t27 h2 fun h6 =>
        CallsH P 23 #[t0] h6 (fun t31 h7 =>
        pAlloc P 40 h7 fun t5 h8 =>
        pStore P 40 t5 t31 h8 fun h9 =>
        Join0 (fun J5 =>
          CallsH P 44 #[t0, (str [41])] h9 (fun t33 h10 =>
          Reads P (Op.unary .not t33) h10 fun t34 =>
          boolV t34 fun b6 => bcase b6 (
            Reads P (nilS t0) h10 fun t37 =>
            Reads P (Instr.fieldAt 63 t37 0) h10 fun t38 =>
            pLoad P 22 t38 h10 fun t39 =>
            Reads P (builtinS .len #[22] 3 #[t39]) h10 fun t40 =>
            CallsH P 24 #[t0, (.int .i64 9), t40] h10 (fun t41 h11 =>
            J5 h11) E) (
            J5 h10)) E)
        (fun h12 =>
        Reads P (nilS t0) h12 fun t43 =>
        Reads P (Instr.fieldAt 63 t43 2) h12 fun t44 =>
        pLoad P 3 t44 h12 fun t45 =>
        Reads P (binS .sub 3 true t45 (.int .i64 1)) h12 fun t46 =>
        Reads P (nilS t0) h12 fun t47 =>
        Reads P (Instr.fieldAt 63 t47 2) h12 fun t48 =>
        pStore P 3 t48 t46 h12 fun h13 =>
        pLoad P 40 t5 h13 fun t49 =>
        pStore P 40 t2 t49 h13 fun h14 =>
        pLoad P 40 t2 h14 fun r7 => R r7 h14)) E) (
        Reads P (binS .eql 9 true t13 (str [41])) h2 fun t51 =>
        boolV t51 fun b8 => bcase b8 (
          Reads P (nilS t0) h2 fun t53 =>
          Reads P (Instr.fieldAt 63 t53 2) h2 fun t54 =>
          pLoad P 3 t54 h2 fun t55 =>
          Reads P (binS .eql 3 true t55 (.int .i64 0)) h2 fun t56 =>
          boolV t56 fun b9 => bcase b9 (
            CallsH P 24 #[t0, (.int .i64 9), t11] h2 (fun t59 h15 =>
            CallsH P 24 #[t0, (.int .i64 3), t11] h15 (fun t62 h16 =>
          J1 h16) E) E) (
            CallsH P 24 #[t0, (.int .i64 3), t11] h2 (fun t62_2 h17 =>
          J1 h17) E)) (
          Reads P (binS .eql 9 true t13 (str [45, 112, 114, 117, 110, 101])) h2 fun t64 =>
          boolV t64 fun b10 => bcase b10 (
            Reads P (Instr.build 40 #[(0, (.int .i64 9))]) h2 fun t65 =>
            pStore P 40 t2 t65 h2 fun h18 =>
            pLoad P 40 t2 h18 fun r11 => R r11 h18) (
            Reads P (binS .eql 9 true t13 (str [45, 112, 114, 105, 110, 116])) h2 fun t67 =>
            boolV t67 fun b12 => bcase b12 (
              Reads P (nilS t0) h2 fun t69 =>
              Reads P (Instr.fieldAt 63 t69 3) h2 fun t70 =>
              pStore P 4 t70 (.bool true) h2 fun h19 =>
              Reads P (Instr.build 40 #[(0, (.int .i64 10))]) h19 fun t71 =>
              pStore P 40 t2 t71 h19 fun h20 =>
              pLoad P 40 t2 h20 fun r13 => R r13 h20) (
              Reads P (binS .eql 9 true t13 (str [45, 101, 120, 101, 99])) h2 fun t73 =>
              boolV t73 fun b14 => bcase b14 (
                Reads P (nilS t0) h2 fun t75 =>
                Reads P (Instr.fieldAt 63 t75 3) h2 fun t76 =>
                pStore P 4 t76 (.bool true) h2 fun h21 =>
                CallsH P 69 #[t0] h21 (fun t78 h22 =>
                pStore P 40 t2 t78 h22 fun h23 =>
                pLoad P 40 t2 h23 fun r15 => R r15 h23) E) (
                Reads P (binS .eql 9 true t13 (str [45, 110, 97, 109, 101])) h2 fun t80 =>
                boolV t80 fun b16 => bcase b16 (
                  CallsH P 68 #[t0] h2 (fun t82 h24 =>
                  Runs P (vS (convert 9 115 t82)) h24 (fun t85 h25 =>
                  CallsH P 70 #[t85] h25 (fun t86 h26 =>
                  Reads P (Instr.extract t86 0) h26 fun t87 =>
                  Reads P (Instr.extract t86 1) h26 fun t88 =>
                  Reads P (binS .neq 26 true t88 .nilIface) h26 fun t90 =>
                  boolV t90 fun b17 => bcase b17 (
                    Stable h26 fun S18 =>
                    ReadsS P (nilS t0) S18 fun t96 =>
                    ReadsS P (Instr.fieldAt 63 t96 1) S18 fun t97 =>
                    pLoadS P 3 t97 S18 fun t98 =>
                    ReadsS P (binS .sub 3 true t98 (.int .i64 1)) S18 fun t99 =>
                    (CallsH P 16 #[t88] h26 (fun t93 h27 =>
                    S18 h27 ∧ (ReadsS P (Instr.field 42 t93 0) S18 fun t94 =>
                    (CallsH P 24 #[t0, t94, t99] h27 (fun t100 h28 =>
                    True ∧ (Reads P (Instr.build 40 #[(0, (.int .i64 4)), (1, t82)]) h28 fun t102 =>
                  pStore P 40 t2 t102 h28 fun h29 =>
                  pLoad P 40 t2 h29 fun r19 => R r19 h29)) E) ∧ True)) E) ∧ True) (
                    Reads P (Instr.build 40 #[(0, (.int .i64 4)), (1, t82)]) h26 fun t102_2 =>
                  pStore P 40 t2 t102_2 h26 fun h30 =>
                  pLoad P 40 t2 h30 fun r20 => R r20 h30)) E) E) E) (
                  Reads P (binS .eql 9 true t13 (str [45, 110, 101, 119, 101, 114])) h2 fun t104 =>
                  boolV t104 fun b21 => bcase b21 (
                    CallsH P 68 #[t0] h2 (fun t106 h31 =>
                    Reads P (Instr.build 40 #[(0, (.int .i64 8)), (1, t106)]) h31 fun t107 =>
                    pStore P 40 t2 t107 h31 fun h32 =>
                    pLoad P 40 t2 h32 fun r22 => R r22 h32) E) (
                    Reads P (binS .eql 9 true t13 (str [45, 116, 121, 112, 101])) h2 fun t109 =>
                    boolV t109 fun b23 => bcase b23 (
                      CallsH P 68 #[t0] h2 (fun t111 h33 =>
                      Join1 (fun J24 =>
                        Reads P (binS .neq 9 true t111 (str [102])) h33 fun t113 =>
                        boolV t113 fun b25 => bcase b25 (
                        Reads P (binS .neq 9 true t111 (str [100])) h33 fun t116 =>
                        J24 t116 h33) (
                        J24 (.bool false) h33))
                      (fun t117 h34 =>
                      boolV t117 fun b26 => bcase b26 (
                        Reads P (nilS t0) h34 fun t120 =>
                        Reads P (Instr.fieldAt 63 t120 1) h34 fun t121 =>
                        pLoad P 3 t121 h34 fun t122 =>
                        Reads P (binS .sub 3 true t122 (.int .i64 1)) h34 fun t123 =>
                        CallsH P 24 #[t0, (.int .i64 14), t123] h34 (fun t124 h35 =>
                        Reads P (Instr.build 40 #[(0, (.int .i64 5)), (1, t111)]) h35 fun t126 =>
                      pStore P 40 t2 t126 h35 fun h36 =>
                      pLoad P 40 t2 h36 fun r27 => R r27 h36) E) (
                        Reads P (Instr.build 40 #[(0, (.int .i64 5)), (1, t111)]) h34 fun t126_2 =>
                      pStore P 40 t2 t126_2 h34 fun h37 =>
                      pLoad P 40 t2 h37 fun r28 => R r28 h37))) E) (
                      Reads P (binS .eql 9 true t13 (str [45, 115, 105, 122, 101])) h2 fun t128 =>
                      boolV t128 fun b29 => bcase b29 (
                        CallsH P 71 #[t0, (.int .i64 6)] h2 (fun t130 h38 =>
                        pStore P 40 t2 t130 h38 fun h39 =>
                        pLoad P 40 t2 h39 fun r30 => R r30 h39) E) (
                        Reads P (binS .eql 9 true t13 (str [45, 108, 105, 110, 107, 115])) h2 fun t132 =>
                        boolV t132 fun b31 => bcase b31 (
                          CallsH P 71 #[t0, (.int .i64 7)] h2 (fun t134 h40 =>
                          pStore P 40 t2 t134 h40 fun h41 =>
                          pLoad P 40 t2 h41 fun r32 => R r32 h41) E) (
                          J1 h2)))))))))))) E)
  (fun h42 =>
  CallsH P 24 #[t0, (.int .i64 3), t11] h42 (fun t137 h43 =>
  Reads P (Instr.build 40 #[]) h43 fun t138 =>
  pStore P 40 t2 t138 h43 fun h44 =>
  pLoad P 40 t2 h44 fun r33 => R r33 h44) E)
theorem C58 {E : List PanicEntry → Heap → Prop} {t0 : Value} {h : Heap} {R : Value → Heap → Prop} (hs : S58 Tryz.prog E t0 h R) : CallsH Tryz.prog 58 #[t0] h R E :=
  calls_of_vc H58 Tryz.mixed Tryz.func58 rfl (by kernel_rfl) (by kernel_rfl) (Eq.mp (show S58 Tryz.prog E t0 h R = vcFun Tryz.prog H58 E Tryz.f58.results.toList _ [t0] h R from by kernel_rfl) hs)

def H59 : Hints := { r := fun _ => none, s := fun _ => none, l := fun _ => none, d := fun i => match i with | 1 => some (.cut 1 (.take 0 (.take 1 (.take 2 (.take 3 (.take 4 (.take 5 (.take 6 (.take 7 (.take 8 (.take 9 (.take 10 (.take 11 (.take 12 (.take 13 (.take 14 (.take 15 (.take 16 (.take 17 (.take 18 (.take 19 (.take 20 (.take 21 (.take 22 (.take 23 (.take 24 .done)))))))))))))))))))))))))) | _ => none }
def S59 (P : Program) (E : List PanicEntry → Heap → Prop) (t0 t1 : Value) (h : Heap) (R : Value → Heap → Prop) : Prop :=
  Reads P (nilS t0) h fun t6 =>
  Reads P (Instr.fieldAt 63 t6 1) h fun t7 =>
  pLoad P 3 t7 h fun t8 =>
  Reads P (nilS t0) h fun t10 =>
  Reads P (Instr.fieldAt 63 t10 0) h fun t11 =>
  pLoad P 22 t11 h fun t12 =>
  Reads P (builtinS .len #[22] 3 #[t12]) h fun t13 =>
  Reads P (binS .lss 3 false t8 t13) h fun t14 =>
  boolV t14 fun b1 => bcase b1 (
  Reads P (nilS t0) h fun t17 =>
  Reads P (Instr.fieldAt 63 t17 0) h fun t18 =>
  pLoad P 22 t18 h fun t19 =>
  Reads P (nilS t0) h fun t21 =>
  Reads P (Instr.fieldAt 63 t21 1) h fun t22 =>
  pLoad P 3 t22 h fun t23 =>
  Reads P (Instr.indexAt 22 t19 t23) h fun t24 =>
  pLoad P 9 t24 h fun t25 =>
  Reads P (binS .eql 9 false t25 t1) h fun t27 =>
  R t27 h) (
  R (.bool false) h)
theorem C59 {E : List PanicEntry → Heap → Prop} {t0 t1 : Value} {h : Heap} {R : Value → Heap → Prop} (hs : S59 Tryz.prog E t0 t1 h R) : CallsH Tryz.prog 59 #[t0, t1] h R E :=
  calls_of_vc H59 Tryz.mixed Tryz.func59 rfl (by kernel_rfl) (by kernel_rfl) (Eq.mp (show S59 Tryz.prog E t0 t1 h R = vcFun Tryz.prog H59 E Tryz.f59.results.toList _ [t0, t1] h R from by kernel_rfl) hs)

def H60 : Hints := { r := fun _ => none, s := fun _ => none, l := fun _ => none, d := fun _ => none }
def S60 (P : Program) (E : List PanicEntry → Heap → Prop) (t0 t1 : Value) (h : Heap) (R : Value → Heap → Prop) : Prop :=
  CallsH P 72 #[t0] h (fun t7 h1 =>
  Reads P (nilS t0) h1 fun t10 =>
  Reads P (Instr.fieldAt 117 t10 1) h1 fun t11 =>
  pLoad P 115 t11 h1 fun t12 =>
  Runs P (builtin .append #[115, 9] 115 #[false, false] #[t12, t1]) h1 (fun t14 h2 =>
  Reads P (nilS t0) h2 fun t15 =>
  Reads P (Instr.fieldAt 117 t15 1) h2 fun t16 =>
  pStore P 115 t16 t14 h2 fun h3 =>
  Reads P (builtinS .len #[9] 3 #[t1]) h3 fun t18 =>
  R (.tuple #[t18, .nilIface]) h3) E) E
theorem C60 {E : List PanicEntry → Heap → Prop} {t0 t1 : Value} {h : Heap} {R : Value → Heap → Prop} (hs : S60 Tryz.prog E t0 t1 h R) : CallsH Tryz.prog 60 #[t0, t1] h R E :=
  calls_of_vc H60 Tryz.mixed Tryz.func60 rfl (by kernel_rfl) (by kernel_rfl) (Eq.mp (show S60 Tryz.prog E t0 t1 h R = vcFun Tryz.prog H60 E Tryz.f60.results.toList _ [t0, t1] h R from by kernel_rfl) hs)

def H61 : Hints := { r := fun _ => none, s := fun i => match i with | 3 => some [] | 6 => some [7] | _ => none, l := fun i => match i with | 8 => some [0, 9] | _ => none, d := fun _ => none }
def S61 (P : Program) (E : List PanicEntry → Heap → Prop) (t0 t1 t2 : Value) (h : Heap) (R : Value → Heap → Prop) : Prop :=
  Join0 (fun J1 =>
    Reads P (binS .lss 3 true t1 (.int .i64 2)) h fun t11 =>
    boolV t11 fun b2 => bcase b2 (
    R (str []) h) (
    Reads P (binS .gtr 3 true t1 (.int .i64 16)) h fun t14 =>
    boolV t14 fun b3 => bcase b3 (
      R (str []) h) (
      J1 h)))
  (fun h1 =>
  Join1 (fun J4 =>
    boolV t2 fun b5 => bcase b5 (
      J4 (str [48, 49, 50, 51, 52, 53, 54, 55, 56, 57, 65, 66, 67, 68, 69, 70]) h1) (
      J4 (str [48, 49, 50, 51, 52, 53, 54, 55, 56, 57, 97, 98, 99, 100, 101, 102]) h1))
  (fun t7 h2 =>
  pAlloc P 130 h2 fun t8 h3 =>
  Loop2 t0 (.int .i64 64) h3 (fun C6 t0_2 t9 h4 =>
    Reads P (binS .sub 3 true t9 (.int .i64 1)) h4 fun t18 =>
    Reads P (convert 3 121 t1) h4 fun t23 =>
    Reads P (binS .rem 121 false t0_2 t23) h4 fun t24 =>
    Reads P (Instr.index 9 t7 t24) h4 fun t25 =>
    Reads P (Instr.indexAt 130 t8 t18) h4 fun t26 =>
    pStore P 5 t26 t25 h4 fun h5 =>
    Reads P (convert 3 121 t1) h5 fun t29 =>
    Reads P (binS .quo 121 false t0_2 t29) h5 fun t30 =>
    Reads P (binS .eql 121 true t30 (.int .u64 0)) h5 fun t32 =>
    boolV t32 fun b7 => bcase b7 (
      Reads P (Instr.sliceAt 130 t8 (some t18) none none) h5 fun t34 =>
      Reads P (convert 115 9 t34) h5 fun t35 =>
      R t35 h5) (
      C6 t30 t18 h5))))
theorem C61 {E : List PanicEntry → Heap → Prop} {t0 t1 t2 : Value} {h : Heap} {R : Value → Heap → Prop} (hs : S61 Tryz.prog E t0 t1 t2 h R) : CallsH Tryz.prog 61 #[t0, t1, t2] h R E :=
  calls_of_vc H61 Tryz.mixed Tryz.func61 rfl (by kernel_rfl) (by kernel_rfl) (Eq.mp (show S61 Tryz.prog E t0 t1 t2 h R = vcFun Tryz.prog H61 E Tryz.f61.results.toList _ [t0, t1, t2] h R from by kernel_rfl) hs)

def H62 : Hints := { r := fun _ => none, s := fun _ => none, l := fun _ => none, d := fun i => match i with | 1 => some (.cut 1 (.take 0 (.take 1 (.take 2 (.take 3 (.take 4 (.take 5 (.take 6 (.take 7 (.take 8 (.take 9 (.cut 0 (.act 10 (.cut 1 (.take 11 .done)) .stop))))))))))))) | _ => none }
def S62 (P : Program) (E : List PanicEntry → Heap → Prop) (t0 : Value) (h : Heap) (R : Value → Heap → Prop) : Prop :=
  Reads P (nilS t0) h fun t4 =>
  Reads P (Instr.fieldAt 117 t4 1) h fun t5 =>
  pLoad P 115 t5 h fun t6 =>
  Reads P (builtinS .unsafeSliceData #[115] 131 #[t6]) h fun t7 =>
  Reads P (nilS t0) h fun t9 =>
  Reads P (Instr.fieldAt 117 t9 1) h fun t10 =>
  pLoad P 115 t10 h fun t11 =>
  Reads P (builtinS .len #[115] 3 #[t11]) h fun t12 =>
  (Runs P (builtin .unsafeString #[131, 3] 9 #[false, false] #[t7, t12]) h (fun t13 h1 =>
  True ∧ (R t13 h1)) E) ∧ True
theorem C62 {E : List PanicEntry → Heap → Prop} {t0 : Value} {h : Heap} {R : Value → Heap → Prop} (hs : S62 Tryz.prog E t0 h R) : CallsH Tryz.prog 62 #[t0] h R E :=
  calls_of_vc H62 Tryz.mixed Tryz.func62 rfl (by kernel_rfl) (by kernel_rfl) (Eq.mp (show S62 Tryz.prog E t0 h R = vcFun Tryz.prog H62 E Tryz.f62.results.toList _ [t0] h R from by kernel_rfl) hs)

def H63 : Hints := { r := fun _ => none, s := fun _ => none, l := fun _ => none, d := fun _ => none }
def S63 (P : Program) (E : List PanicEntry → Heap → Prop) (t0 : Value) (h : Heap) (R : Value → Heap → Prop) : Prop :=
  Reads P (binS .lss 2 true t0 (.int .i64 0)) h fun t4 =>
  boolV t4 fun b1 => bcase b1 (
    Reads P (convert 2 121 t0) h fun t6 =>
    Reads P (Op.unary .neg t6) h fun t7 =>
    CallsH P 61 #[t7, (.int .i64 10), (.bool false)] h (fun t8 h1 =>
    Reads P (binS .add 9 true (str [45]) t8) h1 fun t9 =>
    R t9 h1) E) (
    Reads P (convert 2 121 t0) h fun t11 =>
  CallsH P 61 #[t11, (.int .i64 10), (.bool false)] h (fun t12 h2 =>
  R t12 h2) E)
theorem C63 {E : List PanicEntry → Heap → Prop} {t0 : Value} {h : Heap} {R : Value → Heap → Prop} (hs : S63 Tryz.prog E t0 h R) : CallsH Tryz.prog 63 #[t0] h R E :=
  calls_of_vc H63 Tryz.mixed Tryz.func63 rfl (by kernel_rfl) (by kernel_rfl) (Eq.mp (show S63 Tryz.prog E t0 h R = vcFun Tryz.prog H63 E Tryz.f63.results.toList _ [t0] h R from by kernel_rfl) hs)

def H66 : Hints := { r := fun _ => none, s := fun i => match i with | 3 => some [] | 6 => some [] | _ => none, l := fun i => match i with | 1 => some [0] | 17 => some [45] | _ => none, d := fun _ => none }
def S66 (P : Program) (E : List PanicEntry → Heap → Prop) (t0 t1 t2 : Value) (h : Heap) (R : Value → Heap → Prop) : Prop :=
  Loop1 t0 h (fun C1 t0_2 h1 =>
    Join0 (fun J2 =>
      boolV t2 fun b3 => bcase b3 (
      Reads P (binS .eql 26 false t0_2 t1) h1 fun t18 =>
      boolV t18 fun b4 => bcase b4 (
        R (.bool true) h1) (
        J2 h1)) (
      J2 h1))
    (fun h2 =>
    Join0 (fun J5 =>
      Reads P (Instr.typeAssert t0_2 26 133 true) h2 fun t22 =>
      Reads P (Instr.extract t22 0) h2 fun t23 =>
      Reads P (Instr.extract t22 1) h2 fun t24 =>
      boolV t24 fun b6 => bcase b6 (
      Runs P (invoke (.fn (.method "Is") #[]) (#[t23] ++ #[t1])) h2 (fun t29 h3 =>
      boolV t29 fun b7 => bcase b7 (
        R (.bool true) h3) (
        J5 h3)) E) (
      J5 h2))
    (fun h4 =>
    Reads P (Instr.typeAssert t0_2 26 109 true) h4 fun t32 =>
    Reads P (Instr.extract t32 1) h4 fun t33 =>
    Reads P (Instr.extract t32 0) h4 fun t34 =>
    boolV t33 fun b8 => bcase b8 (
      Runs P (invoke (.fn (.method "Unwrap") #[]) (#[t34] ++ #[])) h4 (fun t36 h5 =>
      Reads P (binS .eql 26 true t36 .nilIface) h5 fun t38 =>
      boolV t38 fun b9 => bcase b9 (
        R (.bool false) h5) (
        C1 t36 h5)) E) (
      Reads P (Instr.typeAssert t0_2 26 111 true) h4 fun t39 =>
      Reads P (Instr.extract t39 1) h4 fun t40 =>
      Reads P (Instr.extract t39 0) h4 fun t41 =>
      boolV t40 fun b10 => bcase b10 (
        Runs P (invoke (.fn (.method "Unwrap") #[]) (#[t41] ++ #[])) h4 (fun t43 h6 =>
        Reads P (builtinS .len #[112] 3 #[t43]) h6 fun t44 =>
        Loop1 (.int .i64 0) h6 (fun C11 t45 h7 =>
          Reads P (binS .lss 3 false t45 t44) h7 fun t46 =>
          boolV t46 fun b12 => bcase b12 (
            Reads P (Instr.indexAt 112 t43 t45) h7 fun t47 =>
          pLoad P 26 t47 h7 fun t48 =>
          CallsH P 66 #[t48, t1, t2] h7 (fun t52 h8 =>
          boolV t52 fun b13 => bcase b13 (
            R (.bool true) h8) (
            Reads P (binS .add 3 true t45 (.int .i64 1)) h8 fun t53 =>
          C11 t53 h8)) E) (
            R (.bool false) h7))) E) (
        R (.bool false) h4)))))
theorem C66 {E : List PanicEntry → Heap → Prop} {t0 t1 t2 : Value} {h : Heap} {R : Value → Heap → Prop} (hs : S66 Tryz.prog E t0 t1 t2 h R) : CallsH Tryz.prog 66 #[t0, t1, t2] h R E :=
  calls_of_vc H66 Tryz.mixed Tryz.func66 rfl (by kernel_rfl) (by kernel_rfl) (Eq.mp (show S66 Tryz.prog E t0 t1 t2 h R = vcFun Tryz.prog H66 E Tryz.f66.results.toList _ [t0, t1, t2] h R from by kernel_rfl) hs)

def H68 : Hints := { r := fun _ => none, s := fun i => match i with | 3 => some [] | _ => none, l := fun _ => none, d := fun i => match i with | 1 => some (.cut 1 (.take 0 (.take 1 (.take 2 (.take 3 (.take 4 (.take 5 (.take 6 (.take 7 (.take 8 (.take 9 .done))))))))))) | 4 => some (.cut 1 (.take 0 (.take 1 (.take 2 (.take 3 (.take 4 (.take 5 (.take 6 (.take 7 (.take 8 (.take 9 (.take 10 (.take 11 .done))))))))))))) | _ => none }
def S68 (P : Program) (E : List PanicEntry → Heap → Prop) (t0 : Value) (h : Heap) (R : Value → Heap → Prop) : Prop :=
  Join0 (fun J1 =>
    Reads P (nilS t0) h fun t4 =>
    Reads P (Instr.fieldAt 63 t4 1) h fun t5 =>
    pLoad P 3 t5 h fun t6 =>
    Reads P (nilS t0) h fun t8 =>
    Reads P (Instr.fieldAt 63 t8 0) h fun t9 =>
    pLoad P 22 t9 h fun t10 =>
    Reads P (builtinS .len #[22] 3 #[t10]) h fun t11 =>
    Reads P (binS .geq 3 false t6 t11) h fun t12 =>
    boolV t12 fun b2 => bcase b2 (
      Reads P (nilS t0) h fun t15 =>
      Reads P (Instr.fieldAt 63 t15 0) h fun t16 =>
      pLoad P 22 t16 h fun t17 =>
      Reads P (builtinS .len #[22] 3 #[t17]) h fun t18 =>
      CallsH P 24 #[t0, (.int .i64 3), t18] h (fun t19 h1 =>
      J1 h1) E) (
      J1 h))
  (fun h2 =>
  Reads P (nilS t0) h2 fun t21 =>
  Reads P (Instr.fieldAt 63 t21 1) h2 fun t22 =>
  pLoad P 3 t22 h2 fun t23 =>
  Reads P (binS .add 3 true t23 (.int .i64 1)) h2 fun t24 =>
  Reads P (nilS t0) h2 fun t25 =>
  Reads P (Instr.fieldAt 63 t25 1) h2 fun t26 =>
  pStore P 3 t26 t24 h2 fun h3 =>
  Reads P (nilS t0) h3 fun t28 =>
  Reads P (Instr.fieldAt 63 t28 0) h3 fun t29 =>
  pLoad P 22 t29 h3 fun t30 =>
  Reads P (nilS t0) h3 fun t32 =>
  Reads P (Instr.fieldAt 63 t32 1) h3 fun t33 =>
  pLoad P 3 t33 h3 fun t34 =>
  Reads P (binS .sub 3 true t34 (.int .i64 1)) h3 fun t35 =>
  Reads P (Instr.indexAt 22 t30 t35) h3 fun t36 =>
  pLoad P 9 t36 h3 fun t37 =>
  R t37 h3)
theorem C68 {E : List PanicEntry → Heap → Prop} {t0 : Value} {h : Heap} {R : Value → Heap → Prop} (hs : S68 Tryz.prog E t0 h R) : CallsH Tryz.prog 68 #[t0] h R E :=
  calls_of_vc H68 Tryz.mixed Tryz.func68 rfl (by kernel_rfl) (by kernel_rfl) (Eq.mp (show S68 Tryz.prog E t0 h R = vcFun Tryz.prog H68 E Tryz.f68.results.toList _ [t0] h R from by kernel_rfl) hs)

def H69 : Hints := { r := fun _ => none, s := fun _ => none, l := fun i => match i with | 2 => some [] | _ => none, d := fun _ => none }
def S69 (P : Program) (E : List PanicEntry → Heap → Prop) (t0 : Value) (h : Heap) (R : Value → Heap → Prop) : Prop :=
  pAlloc P 40 h fun t2 h1 =>
  Reads P (Instr.build 40 #[(0, (.int .i64 11))]) h1 fun t5 =>
  pAlloc P 40 h1 fun t3 h2 =>
  pStore P 40 t3 t5 h2 fun h3 =>
  Loop0 h3 (fun C1 h4 =>
    CallsH P 68 #[t0] h4 (fun t7 h5 =>
    Reads P (binS .eql 9 true t7 (str [59])) h5 fun t9 =>
    boolV t9 fun b2 => bcase b2 (
      Reads P (Instr.fieldAt 40 t3 5) h5 fun t16 =>
  pLoad P 22 t16 h5 fun t17 =>
  Reads P (builtinS .len #[22] 3 #[t17]) h5 fun t18 =>
  Reads P (binS .eql 3 true t18 (.int .i64 0)) h5 fun t19 =>
  boolV t19 fun b3 => bcase b3 (
    Reads P (nilS t0) h5 fun t22 =>
    Reads P (Instr.fieldAt 63 t22 1) h5 fun t23 =>
    pLoad P 3 t23 h5 fun t24 =>
    Reads P (binS .sub 3 true t24 (.int .i64 1)) h5 fun t25 =>
    CallsH P 24 #[t0, (.int .i64 14), t25] h5 (fun t26 h6 =>
    pLoad P 40 t3 h6 fun t27 =>
  pStore P 40 t2 t27 h6 fun h7 =>
  pLoad P 40 t2 h7 fun r4 => R r4 h7) E) (
    pLoad P 40 t3 h5 fun t27_2 =>
  pStore P 40 t2 t27_2 h5 fun h8 =>
  pLoad P 40 t2 h8 fun r5 => R r5 h8)) (
      Reads P (Instr.fieldAt 40 t3 5) h5 fun t10 =>
    pLoad P 22 t10 h5 fun t11 =>
    Runs P (vS (Instr.buildSlice 22 1 #[(0, t7)])) h5 (fun t13 h9 =>
    Runs P (builtin .append #[22, 22] 22 #[false, false] #[t11, t13]) h9 (fun t14 h10 =>
    Reads P (Instr.fieldAt 40 t3 5) h10 fun t15 =>
    pStore P 22 t15 t14 h10 fun h11 =>
    C1 h11) E) E)) E)
theorem C69 {E : List PanicEntry → Heap → Prop} {t0 : Value} {h : Heap} {R : Value → Heap → Prop} (hs : S69 Tryz.prog E t0 h R) : CallsH Tryz.prog 69 #[t0] h R E :=
  calls_of_vc H69 Tryz.mixed Tryz.func69 rfl (by kernel_rfl) (by kernel_rfl) (Eq.mp (show S69 Tryz.prog E t0 h R = vcFun Tryz.prog H69 E Tryz.f69.results.toList _ [t0] h R from by kernel_rfl) hs)

def H70 : Hints := { r := fun _ => none, s := fun i => match i with | 20 => some [5] | _ => none, l := fun i => match i with | 5 => some [5] | _ => none, d := fun i => match i with | 15 => some (.cut 2 (.take 0 (.take 1 (.take 2 (.take 3 (.take 4 (.take 5 (.take 6 (.act 7 (.act 8 (.cut 1 (.take 9 (.take 10 (.cut 0 (.act 11 .done .stop))))) .stop) .stop))))))))) | 20 => some (.cut 2 (.take 0 (.take 1 (.take 2 (.take 3 (.take 4 (.take 5 (.take 6 (.take 7 (.take 8 (.act 9 (.act 10 (.act 11 (.cut 1 (.take 12 (.take 13 (.cut 0 (.act 14 .done .stop))))) .stop) .stop) .stop))))))))))) | _ => none }
def S70 (P : Program) (E : List PanicEntry → Heap → Prop) (t0 : Value) (h : Heap) (R : Value → Heap → Prop) : Prop :=
  Reads P (builtinS .len #[115] 3 #[t0]) h fun t10 =>
  Reads P (binS .gtr 3 true t10 (.int .i64 256)) h fun t11 =>
  boolV t11 fun b1 => bcase b1 (
    CallsH P 38 #[(.int .i64 2)] h (fun t12 h1 =>
    CallsH P 37 #[t12, (.int .i64 0)] h1 (fun t13 h2 =>
    CallsH P 36 #[t13, (.int .i64 2)] h2 (fun t14 h3 =>
    R (.tuple #[(.pointer none), t14]) h3) E) E) E) (
    Reads P (Instr.build 144 #[]) h fun t15 =>
  pNew 144 t15 h fun t16 h4 =>
  Loop1 (.int .i64 0) h4 (fun C2 t5 h5 =>
    Reads P (builtinS .len #[115] 3 #[t0]) h5 fun t19 =>
    Reads P (binS .lss 3 false t5 t19) h5 fun t20 =>
    boolV t20 fun b3 => bcase b3 (
      Join1 (fun J4 =>
      Reads P (Instr.indexAt 115 t0 t5) h5 fun t25 =>
      pLoad P 5 t25 h5 fun t26 =>
      Reads P (binS .eql 5 true t26 (.int .u8 42)) h5 fun t28 =>
      boolV t28 fun b5 => bcase b5 (
        Reads P (nilS t16) h5 fun t31 =>
        Reads P (Instr.fieldAt 144 t31 0) h5 fun t32 =>
        pLoad P 142 t32 h5 fun t33 =>
        Reads P (Instr.build 148 #[(0, (.int .i64 3))]) h5 fun t34 =>
        Runs P (vS (Instr.buildSlice 142 1 #[(0, t34)])) h5 (fun t35 h6 =>
        Runs P (builtin .append #[142, 142] 142 #[false, false] #[t33, t35]) h6 (fun t36 h7 =>
        Reads P (nilS t16) h7 fun t37 =>
        Reads P (Instr.fieldAt 144 t37 0) h7 fun t38 =>
        pStore P 142 t38 t36 h7 fun h8 =>
        Reads P (binS .add 3 true t5 (.int .i64 1)) h8 fun t22 =>
    C2 t22 h8) E) E) (
        Reads P (binS .eql 5 true t26 (.int .u8 63)) h5 fun t40 =>
        boolV t40 fun b6 => bcase b6 (
          Reads P (nilS t16) h5 fun t43 =>
          Reads P (Instr.fieldAt 144 t43 0) h5 fun t44 =>
          pLoad P 142 t44 h5 fun t45 =>
          Reads P (Instr.build 148 #[(0, (.int .i64 2))]) h5 fun t46 =>
          Runs P (vS (Instr.buildSlice 142 1 #[(0, t46)])) h5 (fun t47 h9 =>
          Runs P (builtin .append #[142, 142] 142 #[false, false] #[t45, t47]) h9 (fun t48 h10 =>
          Reads P (nilS t16) h10 fun t49 =>
          Reads P (Instr.fieldAt 144 t49 0) h10 fun t50 =>
          pStore P 142 t50 t48 h10 fun h11 =>
          Reads P (binS .add 3 true t5 (.int .i64 1)) h11 fun t22_2 =>
    C2 t22_2 h11) E) E) (
          Reads P (binS .eql 5 true t26 (.int .u8 91)) h5 fun t52 =>
          boolV t52 fun b7 => bcase b7 (
            Reads P (binS .add 3 true t5 (.int .i64 1)) h5 fun t56 =>
            CallsH P 80 #[t0, t56, (.int .i64 2)] h5 (fun t57 h12 =>
            Reads P (Instr.extract t57 0) h12 fun t58 =>
            Reads P (Instr.extract t57 1) h12 fun t59 =>
            Reads P (Instr.extract t57 2) h12 fun t60 =>
            pAlloc P 146 h12 fun t6 h13 =>
            pStore P 146 t6 t58 h13 fun h14 =>
            Reads P (binS .eql 26 true t60 .nilIface) h14 fun t62 =>
            boolV t62 fun b8 => bcase b8 (
              Stable h14 fun S9 =>
              ReadsS P (nilS t16) S9 fun t65 =>
              ReadsS P (Instr.fieldAt 144 t65 0) S9 fun t66 =>
              pLoadS P 142 t66 S9 fun t67 =>
              pLoadS P 146 t6 S9 fun t68 =>
              ReadsS P (Instr.build 148 #[(0, (.int .i64 1)), (1, t68)]) S9 fun t69 =>
              (Runs P (vS (Instr.buildSlice 142 1 #[(0, t69)])) h14 (fun t70 h15 =>
              S9 h15 ∧ ((Runs P (builtin .append #[142, 142] 142 #[false, false] #[t67, t70]) h15 (fun t71 h16 =>
              S9 h16 ∧ (Reads P (nilS t16) h16 fun t72 =>
              Reads P (Instr.fieldAt 144 t72 0) h16 fun t73 =>
              (pStore P 142 t73 t71 h16 fun h17 =>
              True ∧ (Reads P (binS .sub 3 true t59 (.int .i64 1)) h17 fun t75 =>
              Reads P (binS .add 3 true t75 (.int .i64 1)) h17 fun t22_3 =>
    C2 t22_3 h17)) ∧ True)) E) ∧ True)) E) ∧ True) (
              J4 t5 h14)) E) (
            Reads P (binS .eql 5 true t26 (.int .u8 92)) h5 fun t77 =>
            boolV t77 fun b10 => bcase b10 (
              Reads P (binS .add 3 true t5 (.int .i64 1)) h5 fun t79 =>
              Reads P (builtinS .len #[115] 3 #[t0]) h5 fun t81 =>
              Reads P (binS .lss 3 false t79 t81) h5 fun t82 =>
              boolV t82 fun b11 => bcase b11 (
                Reads P (binS .add 3 true t5 (.int .i64 1)) h5 fun t84 =>
                J4 t84 h5) (
                J4 t5 h5)) (
              J4 t5 h5)))))
    (fun t5_2 h18 =>
    Stable h18 fun S12 =>
    ReadsS P (nilS t16) S12 fun t87 =>
    ReadsS P (Instr.fieldAt 144 t87 0) S12 fun t88 =>
    pLoadS P 142 t88 S12 fun t89 =>
    ReadsS P (Instr.indexAt 115 t0 t5_2) S12 fun t92 =>
    pLoadS P 5 t92 S12 fun t93 =>
    (CallsH P 81 #[t93] h18 (fun t94 h19 =>
    S12 h19 ∧ ((Runs P (vS (Instr.buildSlice 142 1 #[(0, t94)])) h19 (fun t95 h20 =>
    S12 h20 ∧ ((Runs P (builtin .append #[142, 142] 142 #[false, false] #[t89, t95]) h20 (fun t96 h21 =>
    S12 h21 ∧ (Reads P (nilS t16) h21 fun t97 =>
    Reads P (Instr.fieldAt 144 t97 0) h21 fun t98 =>
    (pStore P 142 t98 t96 h21 fun h22 =>
    True ∧ (Reads P (binS .add 3 true t5_2 (.int .i64 1)) h22 fun t22_4 =>
    C2 t22_4 h22)) ∧ True)) E) ∧ True)) E) ∧ True)) E) ∧ True)) (
      R (.tuple #[t16, .nilIface]) h5)))
theorem C70 {E : List PanicEntry → Heap → Prop} {t0 : Value} {h : Heap} {R : Value → Heap → Prop} (hs : S70 Tryz.prog E t0 h R) : CallsH Tryz.prog 70 #[t0] h R E :=
  calls_of_vc H70 Tryz.mixed Tryz.func70 rfl (by kernel_rfl) (by kernel_rfl) (Eq.mp (show S70 Tryz.prog E t0 h R = vcFun Tryz.prog H70 E Tryz.f70.results.toList _ [t0] h R from by kernel_rfl) hs)

def H71 : Hints := { r := fun _ => none, s := fun i => match i with | 5 => some [6] | 11 => some [6] | 13 => some [44] | 14 => some [] | _ => none, l := fun _ => none, d := fun _ => none }
def S71 (P : Program) (E : List PanicEntry → Heap → Prop) (t0 t1 : Value) (h : Heap) (R : Value → Heap → Prop) : Prop :=
  pAlloc P 40 h fun t4 h1 =>
  Reads P (Instr.build 40 #[(0, t1)]) h1 fun t10 =>
  pAlloc P 40 h1 fun t5 h2 =>
  pStore P 40 t5 t10 h2 fun h3 =>
  CallsH P 68 #[t0] h3 (fun t12 h4 =>
  Join1 (fun J1 =>
    Reads P (binS .eql 3 true t1 (.int .i64 6)) h4 fun t14 =>
    boolV t14 fun b2 => bcase b2 (
      CallsH P 82 #[t12, (str [99])] h4 (fun t17 h5 =>
      Reads P (Instr.extract t17 0) h5 fun t18 =>
      Reads P (Instr.extract t17 1) h5 fun t19 =>
      Reads P (Instr.fieldAt 40 t5 4) h5 fun t20 =>
      pStore P 4 t20 t19 h5 fun h6 =>
      J1 t18 h6) E) (
      J1 t12 h4))
  (fun t6 h7 =>
  Join1 (fun J3 =>
    CallsH P 83 #[t6, (str [43])] h7 (fun t23 h8 =>
    boolV t23 fun b4 => bcase b4 (
      Reads P (Instr.fieldAt 40 t5 2) h8 fun t24 =>
      pStore P 3 t24 (.int .i64 1) h8 fun h9 =>
      Reads P (Instr.sliceAt 9 t6 (some (.int .i64 1)) none none) h9 fun t26 =>
      J3 t26 h9) (
      CallsH P 83 #[t6, (str [45])] h8 (fun t29 h10 =>
      boolV t29 fun b5 => bcase b5 (
        Reads P (Instr.fieldAt 40 t5 2) h10 fun t30 =>
        pStore P 3 t30 (.int .i64 (-1)) h10 fun h11 =>
        Reads P (Instr.sliceAt 9 t6 (some (.int .i64 1)) none none) h11 fun t32 =>
        J3 t32 h11) (
        J3 t6 h10)) E)) E)
  (fun t6_2 h12 =>
  CallsH P 84 #[t6_2] h12 (fun t35 h13 =>
  Reads P (Instr.extract t35 0) h13 fun t36 =>
  Reads P (Instr.extract t35 1) h13 fun t37 =>
  Join0 (fun J6 =>
    Join1 (fun J7 =>
      Reads P (Op.unary .not t37) h13 fun t39 =>
      boolV t39 fun b8 => bcase b8 (
      J7 (.bool true) h13) (
      Reads P (Instr.index 9 t6_2 (.int .i64 0)) h13 fun t42 =>
      Reads P (binS .eql 5 true t42 (.int .u8 45)) h13 fun t43 =>
      J7 t43 h13))
    (fun t44 h14 =>
    boolV t44 fun b9 => bcase b9 (
      Reads P (nilS t0) h14 fun t47 =>
      Reads P (Instr.fieldAt 63 t47 1) h14 fun t48 =>
      pLoad P 3 t48 h14 fun t49 =>
      Reads P (binS .sub 3 true t49 (.int .i64 1)) h14 fun t50 =>
      CallsH P 24 #[t0, (.int .i64 14), t50] h14 (fun t51 h15 =>
      J6 h15) E) (
      J6 h14)))
  (fun h16 =>
  Reads P (Instr.fieldAt 40 t5 3) h16 fun t53 =>
  pStore P 2 t53 t36 h16 fun h17 =>
  pLoad P 40 t5 h17 fun t54 =>
  pStore P 40 t4 t54 h17 fun h18 =>
  pLoad P 40 t4 h18 fun r10 => R r10 h18)) E))) E
theorem C71 {E : List PanicEntry → Heap → Prop} {t0 t1 : Value} {h : Heap} {R : Value → Heap → Prop} (hs : S71 Tryz.prog E t0 t1 h R) : CallsH Tryz.prog 71 #[t0, t1] h R E :=
  calls_of_vc H71 Tryz.mixed Tryz.func71 rfl (by kernel_rfl) (by kernel_rfl) (Eq.mp (show S71 Tryz.prog E t0 t1 h R = vcFun Tryz.prog H71 E Tryz.f71.results.toList _ [t0, t1] h R from by kernel_rfl) hs)

def H72 : Hints := { r := fun _ => none, s := fun _ => none, l := fun _ => none, d := fun _ => none }
def S72 (P : Program) (E : List PanicEntry → Heap → Prop) (t0 : Value) (h : Heap) (R : Value → Heap → Prop) : Prop :=
  Reads P (nilS t0) h fun t3 =>
  Reads P (Instr.fieldAt 117 t3 0) h fun t4 =>
  pLoad P 114 t4 h fun t5 =>
  Reads P (binS .eql 114 true t5 (.pointer none)) h fun t6 =>
  boolV t6 fun b1 => bcase b1 (
    Reads P (convert 114 84 t0) h fun t9 =>
    Runs P ((do let d ← Deferred.ofValue (.func (.func 85) #[] #[]) #[t9]; invoke d.target d.args)) h (fun t10 h1 =>
    Reads P (convert 84 114 t10) h1 fun t11 =>
    Reads P (nilS t0) h1 fun t12 =>
    Reads P (Instr.fieldAt 117 t12 0) h1 fun t13 =>
    pStore P 114 t13 t11 h1 fun h2 =>
    R (.tuple #[]) h2) E) (
    Reads P (nilS t0) h fun t15 =>
    Reads P (Instr.fieldAt 117 t15 0) h fun t16 =>
    pLoad P 114 t16 h fun t17 =>
    Reads P (binS .neq 114 false t17 t0) h fun t19 =>
    boolV t19 fun b2 => bcase b2 (
      False) (
      R (.tuple #[]) h))
theorem C72 {E : List PanicEntry → Heap → Prop} {t0 : Value} {h : Heap} {R : Value → Heap → Prop} (hs : S72 Tryz.prog E t0 h R) : CallsH Tryz.prog 72 #[t0] h R E :=
  calls_of_vc H72 Tryz.mixed Tryz.func72 rfl (by kernel_rfl) (by kernel_rfl) (Eq.mp (show S72 Tryz.prog E t0 h R = vcFun Tryz.prog H72 E Tryz.f72.results.toList _ [t0] h R from by kernel_rfl) hs)

def H80 : Hints := { r := fun _ => none, s := fun i => match i with | 3 => some [36] | _ => none, l := fun _ => none, d := fun i => match i with | 7 => some (.cut 2 (.take 0 (.take 1 (.take 2 (.take 3 (.take 4 (.act 5 (.cut 1 (.take 6 (.take 7 .done))) .stop))))))) | _ => none }
def S80 (P : Program) (E : List PanicEntry → Heap → Prop) (t0 t1 t2 : Value) (h : Heap) (R : Value → Heap → Prop) : Prop :=
  pAlloc P 146 h fun t6 h1 =>
  Reads P (Instr.build 168 #[(0, t0), (1, t1), (2, t2)]) h1 fun t15 =>
  pNew 168 t15 h1 fun t16 h2 =>
  Join1 (fun J1 =>
    Reads P (binS .lss 3 true t1 (.int .i64 0)) h2 fun t18 =>
    boolV t18 fun b2 => bcase b2 (
    (undef = undef ∧ ((undef = undef ∧ ((undef = undef ∧ ((undef = undef ∧ (J1 (.bool true) h2))))))))) (
    Reads P (builtinS .len #[115] 3 #[t0]) h2 fun t22 =>
    Reads P (binS .gtr 3 false t1 t22) h2 fun t23 =>
    boolV t23 fun b3 => bcase b3 (
    (undef = undef ∧ ((undef = undef ∧ ((undef = undef ∧ ((undef = undef ∧ (J1 (.bool true) h2))))))))) (
    Reads P (binS .neq 3 true t2 (.int .i64 2)) h2 fun t27 =>
    boolV t27 fun b4 => bcase b4 (
    Reads P (binS .neq 3 true t2 (.int .i64 3)) h2 fun t30 =>
    boolV t30 fun b5 => bcase b5 (
    Reads P (binS .neq 3 true t2 (.int .i64 4)) h2 fun t34 =>
    J1 t34 h2) (
    J1 (.bool false) h2)) (
    J1 (.bool false) h2))))
  (fun t36 h3 =>
  boolV t36 fun b6 => bcase b6 (
    Reads P (Instr.build 146 #[]) h3 fun t37 =>
    CallsH P 93 #[t16, (.int .i64 1), (.int .i64 0)] h3 (fun t39 h4 =>
    pStore P 146 t6 t37 h4 fun h5 =>
    pLoad P 146 t6 h5 fun r7 => R (.tuple #[r7, (.int .i64 0), t39]) h5) E) (
    CallsH P 94 #[t16] h3 (fun t42 h6 =>
  Reads P (Instr.extract t42 0) h6 fun t43 =>
  Reads P (Instr.extract t42 1) h6 fun t44 =>
  pAlloc P 146 h6 fun t10 h7 =>
  pStore P 146 t10 t43 h7 fun h8 =>
  Reads P (binS .neq 26 true t44 .nilIface) h8 fun t46 =>
  boolV t46 fun b8 => bcase b8 (
    Reads P (Instr.build 146 #[]) h8 fun t47 =>
    pStore P 146 t6 t47 h8 fun h9 =>
    pLoad P 146 t6 h9 fun r9 => R (.tuple #[r9, (.int .i64 0), t44]) h9) (
    Stable h8 fun S10 =>
  pLoadS P 146 t10 S10 fun t49 =>
  ReadsS P (nilS t16) S10 fun t51 =>
  ReadsS P (Instr.fieldAt 168 t51 1) S10 fun t52 =>
  pLoadS P 3 t52 S10 fun t53 =>
  (pStore P 146 t6 t49 h8 fun h10 =>
  S10 h10 ∧ (pLoad P 146 t6 h10 fun r11 => R (.tuple #[r11, t53, .nilIface]) h10)) ∧ True)) E))
theorem C80 {E : List PanicEntry → Heap → Prop} {t0 t1 t2 : Value} {h : Heap} {R : Value → Heap → Prop} (hs : S80 Tryz.prog E t0 t1 t2 h R) : CallsH Tryz.prog 80 #[t0, t1, t2] h R E :=
  calls_of_vc H80 Tryz.mixed Tryz.func80 rfl (by kernel_rfl) (by kernel_rfl) (Eq.mp (show S80 Tryz.prog E t0 t1 t2 h R = vcFun Tryz.prog H80 E Tryz.f80.results.toList _ [t0, t1, t2] h R from by kernel_rfl) hs)

def H81 : Hints := { r := fun _ => none, s := fun _ => none, l := fun _ => none, d := fun _ => none }
def S81 (P : Program) (E : List PanicEntry → Heap → Prop) (t0 : Value) (h : Heap) (R : Value → Heap → Prop) : Prop :=
  pAlloc P 148 h fun t2 h1 =>
  Runs P (vS (Instr.buildSlice 115 1 #[(0, t0)])) h1 (fun t4 h2 =>
  Reads P (convert 115 9 t4) h2 fun t5 =>
  CallsH P 95 #[t5] h2 (fun t6 h3 =>
  Reads P (Instr.build 148 #[(0, (.int .i64 1)), (1, t6)]) h3 fun t7 =>
  pStore P 148 t2 t7 h3 fun h4 =>
  pLoad P 148 t2 h4 fun r1 => R r1 h4) E) E
theorem C81 {E : List PanicEntry → Heap → Prop} {t0 : Value} {h : Heap} {R : Value → Heap → Prop} (hs : S81 Tryz.prog E t0 h R) : CallsH Tryz.prog 81 #[t0] h R E :=
  calls_of_vc H81 Tryz.mixed Tryz.func81 rfl (by kernel_rfl) (by kernel_rfl) (Eq.mp (show S81 Tryz.prog E t0 h R = vcFun Tryz.prog H81 E Tryz.f81.results.toList _ [t0] h R from by kernel_rfl) hs)

def H84 : Hints := { r := fun _ => none, s := fun i => match i with | 8 => some [7] | 13 => some [] | _ => none, l := fun i => match i with | 9 => some [6, 24] | _ => none, d := fun _ => none }
def S84 (P : Program) (E : List PanicEntry → Heap → Prop) (t0 : Value) (h : Heap) (R : Value → Heap → Prop) : Prop :=
  CallsH P 98 #[t0, (str [45])] h (fun t13 h1 =>
  Reads P (Instr.extract t13 0) h1 fun t14 =>
  Reads P (Instr.extract t13 1) h1 fun t15 =>
  Reads P (binS .eql 9 true t14 (str [])) h1 fun t17 =>
  boolV t17 fun b1 => bcase b1 (
    R (.tuple #[(.int .i64 0), (.bool false)]) h1) (
    Join1 (fun J2 =>
    boolV t15 fun b3 => bcase b3 (
      Reads P (binS .add 121 true (.int .u64 9223372036854775807) (.int .u64 1)) h1 fun t20 =>
      J2 t20 h1) (
      J2 (.int .u64 9223372036854775807) h1))
  (fun t7 h2 =>
  Runs P (vS (convert 9 115 t14)) h2 (fun t22 h3 =>
  Reads P (builtinS .len #[115] 3 #[t22]) h3 fun t23 =>
  Loop2 (.int .u64 0) (.int .i64 0) h3 (fun C4 t6 t24 h4 =>
    Reads P (binS .lss 3 false t24 t23) h4 fun t25 =>
    boolV t25 fun b5 => bcase b5 (
      Reads P (Instr.indexAt 115 t22 t24) h4 fun t26 =>
    pLoad P 5 t26 h4 fun t27 =>
    Join0 (fun J6 =>
      Reads P (binS .lss 5 true t27 (.int .u8 48)) h4 fun t29 =>
      boolV t29 fun b7 => bcase b7 (
      R (.tuple #[(.int .i64 0), (.bool false)]) h4) (
      Reads P (binS .gtr 5 true t27 (.int .u8 57)) h4 fun t32 =>
      boolV t32 fun b8 => bcase b8 (
        R (.tuple #[(.int .i64 0), (.bool false)]) h4) (
        J6 h4)))
    (fun h5 =>
    Reads P (binS .sub 5 true t27 (.int .u8 48)) h5 fun t35 =>
    Reads P (convert 5 121 t35) h5 fun t36 =>
    Reads P (binS .sub 121 false t7 t36) h5 fun t40 =>
    Reads P (binS .quo 121 true t40 (.int .u64 10)) h5 fun t41 =>
    Reads P (binS .gtr 121 false t6 t41) h5 fun t42 =>
    boolV t42 fun b9 => bcase b9 (
      R (.tuple #[(.int .i64 0), (.bool false)]) h5) (
      Reads P (binS .mul 121 true t6 (.int .u64 10)) h5 fun t44 =>
    Reads P (binS .add 121 false t44 t36) h5 fun t46 =>
    Reads P (binS .add 3 true t24 (.int .i64 1)) h5 fun t47 =>
    C4 t46 t47 h5))) (
      boolV t15 fun b10 => bcase b10 (
    Reads P (convert 121 2 t6) h4 fun t50 =>
    Reads P (Op.unary .neg t50) h4 fun t51 =>
    R (.tuple #[t51, (.bool true)]) h4) (
    Reads P (convert 121 2 t6) h4 fun t53 =>
  R (.tuple #[t53, (.bool true)]) h4)))) E))) E
theorem C84 {E : List PanicEntry → Heap → Prop} {t0 : Value} {h : Heap} {R : Value → Heap → Prop} (hs : S84 Tryz.prog E t0 h R) : CallsH Tryz.prog 84 #[t0] h R E :=
  calls_of_vc H84 Tryz.mixed Tryz.func84 rfl (by kernel_rfl) (by kernel_rfl) (Eq.mp (show S84 Tryz.prog E t0 h R = vcFun Tryz.prog H84 E Tryz.f84.results.toList _ [t0] h R from by kernel_rfl) hs)

def H93 : Hints := { r := fun _ => none, s := fun _ => none, l := fun _ => none, d := fun i => match i with | 1 => some (.cut 2 (.take 0 (.take 2 (.take 4 (.take 5 (.take 6 (.take 7 (.act 1 (.act 3 (.cut 0 (.act 8 (.cut 1 (.take 9 .done)) .stop)) .stop) .stop)))))))) | _ => none }
def S93 (P : Program) (E : List PanicEntry → Heap → Prop) (t0 t1 t2 : Value) (h : Heap) (R : Value → Heap → Prop) : Prop :=
  Stable h fun S1 =>
  ReadsS P (nilS t0) S1 fun t12 =>
  ReadsS P (Instr.fieldAt 168 t12 2) S1 fun t13 =>
  pLoadS P 3 t13 S1 fun t14 =>
  (CallsH P 38 #[t1] h (fun t8 h1 =>
  S1 h1 ∧ ((CallsH P 37 #[t8, t2] h1 (fun t10 h2 =>
  S1 h2 ∧ ((CallsH P 36 #[t10, t14] h2 (fun t15 h3 =>
  True ∧ (R t15 h3)) E) ∧ True)) E) ∧ True)) E) ∧ True
theorem C93 {E : List PanicEntry → Heap → Prop} {t0 t1 t2 : Value} {h : Heap} {R : Value → Heap → Prop} (hs : S93 Tryz.prog E t0 t1 t2 h R) : CallsH Tryz.prog 93 #[t0, t1, t2] h R E :=
  calls_of_vc H93 Tryz.mixed Tryz.func93 rfl (by kernel_rfl) (by kernel_rfl) (Eq.mp (show S93 Tryz.prog E t0 t1 t2 h R = vcFun Tryz.prog H93 E Tryz.f93.results.toList _ [t0, t1, t2] h R from by kernel_rfl) hs)

def H94 : Hints := { r := fun _ => none, s := fun i => match i with | 2 => some [4] | 4 => some [] | 10 => some [] | _ => none, l := fun i => match i with | 7 => some [6] | _ => none, d := fun i => match i with | 7 => some (.cut 1 (.take 0 (.take 1 (.take 2 (.take 3 (.take 4 (.take 5 (.take 6 (.take 7 (.take 8 (.take 9 .done))))))))))) | 8 => some (.cut 2 (.take 0 (.take 1 (.take 2 (.take 3 (.take 4 (.take 5 (.take 6 (.act 7 (.cut 0 (.act 8 (.cut 1 (.take 9 .done)) .stop)) .stop))))))))) | _ => none }
def S94 (P : Program) (E : List PanicEntry → Heap → Prop) (t0 : Value) (h : Heap) (R : Value → Heap → Prop) : Prop :=
  pAlloc P 146 h fun t2 h1 =>
  Join1 (fun J1 =>
    CallsH P 101 #[t0, (.int .i64 0), (.int .u8 94)] h1 (fun t11 h2 =>
    boolV t11 fun b2 => bcase b2 (
    (undef = undef ∧ ((undef = undef ∧ ((undef = undef ∧ ((undef = undef ∧ ((undef = undef ∧ (J1 (.bool true) h2))))))))))) (
    CallsH P 101 #[t0, (.int .i64 0), (.int .u8 33)] h2 (fun t14 h3 =>
    boolV t14 fun b3 => bcase b3 (
    Reads P (nilS t0) h3 fun t17 =>
    Reads P (Instr.fieldAt 168 t17 2) h3 fun t18 =>
    pLoad P 3 t18 h3 fun t19 =>
    Reads P (binS .eql 3 true t19 (.int .i64 2)) h3 fun t20 =>
    J1 t20 h3) (
    J1 (.bool false) h3)) E)) E)
  (fun t4 h4 =>
  Join0 (fun J4 =>
    boolV t4 fun b5 => bcase b5 (
      Reads P (nilS t0) h4 fun t25 =>
      Reads P (Instr.fieldAt 168 t25 1) h4 fun t26 =>
      pLoad P 3 t26 h4 fun t27 =>
      Reads P (binS .add 3 true t27 (.int .i64 1)) h4 fun t28 =>
      Reads P (nilS t0) h4 fun t29 =>
      Reads P (Instr.fieldAt 168 t29 1) h4 fun t30 =>
      pStore P 3 t30 t28 h4 fun h5 =>
      J4 h5) (
      J4 h4))
  (fun h6 =>
  pAlloc P 146 h6 fun t5 h7 =>
  Loop1 (.bool true) h7 (fun C6 t6 h8 =>
    Reads P (nilS t0) h8 fun t32 =>
    Reads P (Instr.fieldAt 168 t32 1) h8 fun t33 =>
    pLoad P 3 t33 h8 fun t34 =>
    Reads P (nilS t0) h8 fun t36 =>
    Reads P (Instr.fieldAt 168 t36 0) h8 fun t37 =>
    pLoad P 115 t37 h8 fun t38 =>
    Reads P (builtinS .len #[115] 3 #[t38]) h8 fun t39 =>
    Reads P (binS .geq 3 false t34 t39) h8 fun t40 =>
    boolV t40 fun b7 => bcase b7 (
      Stable h8 fun S8 =>
      pLoadS P 146 t5 S8 fun t41 =>
      ReadsS P (nilS t0) S8 fun t44 =>
      ReadsS P (Instr.fieldAt 168 t44 0) S8 fun t45 =>
      pLoadS P 115 t45 S8 fun t46 =>
      ReadsS P (builtinS .len #[115] 3 #[t46]) S8 fun t47 =>
      (CallsH P 93 #[t0, (.int .i64 8), t47] h8 (fun t48 h9 =>
      S8 h9 ∧ ((pStore P 146 t2 t41 h9 fun h10 =>
      True ∧ (pLoad P 146 t2 h10 fun r9 => R (.tuple #[r9, t48]) h10)) ∧ True)) E) ∧ True) (
      Join0 (fun J10 =>
      Reads P (Op.unary .not t6) h8 fun t50 =>
      boolV t50 fun b11 => bcase b11 (
      CallsH P 101 #[t0, (.int .i64 0), (.int .u8 93)] h8 (fun t53 h11 =>
      boolV t53 fun b12 => bcase b12 (
        Reads P (nilS t0) h11 fun t79 =>
  Reads P (Instr.fieldAt 168 t79 1) h11 fun t80 =>
  pLoad P 3 t80 h11 fun t81 =>
  Reads P (binS .add 3 true t81 (.int .i64 1)) h11 fun t82 =>
  Reads P (nilS t0) h11 fun t83 =>
  Reads P (Instr.fieldAt 168 t83 1) h11 fun t84 =>
  pStore P 3 t84 t82 h11 fun h12 =>
  boolV t4 fun b13 => bcase b13 (
    pLoad P 146 t5 h12 fun t86 =>
    CallsH P 105 #[t86] h12 (fun t87 h13 =>
    pStore P 146 t5 t87 h13 fun h14 =>
    pLoad P 146 t5 h14 fun t88 =>
  pStore P 146 t2 t88 h14 fun h15 =>
  pLoad P 146 t2 h15 fun r14 => R (.tuple #[r14, .nilIface]) h15) E) (
    pLoad P 146 t5 h12 fun t88_2 =>
  pStore P 146 t2 t88_2 h12 fun h16 =>
  pLoad P 146 t2 h16 fun r15 => R (.tuple #[r15, .nilIface]) h16)) (
        J10 h11)) E) (
      J10 h8))
    (fun h17 =>
    CallsH P 102 #[t0] h17 (fun t57 h18 =>
    Reads P (Instr.extract t57 0) h18 fun t58 =>
    Reads P (Instr.extract t57 1) h18 fun t59 =>
    pAlloc P 175 h18 fun t7 h19 =>
    pStore P 175 t7 t58 h19 fun h20 =>
    Reads P (binS .neq 26 true t59 .nilIface) h20 fun t61 =>
    boolV t61 fun b16 => bcase b16 (
      pLoad P 146 t5 h20 fun t62 =>
      pStore P 146 t2 t62 h20 fun h21 =>
      pLoad P 146 t2 h21 fun r17 => R (.tuple #[r17, t59]) h21) (
      pLoad P 175 t7 h20 fun t66 =>
    CallsH P 103 #[t0, t66] h20 (fun t67 h22 =>
    Reads P (Instr.extract t67 0) h22 fun t68 =>
    Reads P (Instr.extract t67 1) h22 fun t69 =>
    pAlloc P 146 h22 fun t9 h23 =>
    pStore P 146 t9 t68 h23 fun h24 =>
    Reads P (binS .neq 26 true t69 .nilIface) h24 fun t71 =>
    boolV t71 fun b18 => bcase b18 (
      pLoad P 146 t5 h24 fun t72 =>
      pStore P 146 t2 t72 h24 fun h25 =>
      pLoad P 146 t2 h25 fun r19 => R (.tuple #[r19, t69]) h25) (
      pLoad P 146 t5 h24 fun t74 =>
    pLoad P 146 t9 h24 fun t75 =>
    Runs P (vS (Instr.buildSlice 189 2 #[(0, t74), (1, t75)])) h24 (fun t76 h26 =>
    CallsH P 104 #[t76] h26 (fun t77 h27 =>
    pStore P 146 t5 t77 h27 fun h28 =>
    C6 (.bool false) h28) E) E)) E)) E)))))
theorem C94 {E : List PanicEntry → Heap → Prop} {t0 : Value} {h : Heap} {R : Value → Heap → Prop} (hs : S94 Tryz.prog E t0 h R) : CallsH Tryz.prog 94 #[t0] h R E :=
  calls_of_vc H94 Tryz.mixed Tryz.func94 rfl (by kernel_rfl) (by kernel_rfl) (Eq.mp (show S94 Tryz.prog E t0 h R = vcFun Tryz.prog H94 E Tryz.f94.results.toList _ [t0] h R from by kernel_rfl) hs)

def H95 : Hints := { r := fun _ => none, s := fun _ => none, l := fun i => match i with | 3 => some [7] | _ => none, d := fun _ => none }
def S95 (P : Program) (E : List PanicEntry → Heap → Prop) (t0 : Value) (h : Heap) (R : Value → Heap → Prop) : Prop :=
  pAlloc P 146 h fun t2 h1 =>
  pAlloc P 146 h1 fun t3 h2 =>
  Reads P (builtinS .len #[9] 3 #[t0]) h2 fun t6 =>
  Loop1 (.int .i64 0) h2 (fun C1 t7 h3 =>
    Reads P (binS .lss 3 false t7 t6) h3 fun t8 =>
    boolV t8 fun b2 => bcase b2 (
      Reads P (Instr.index 9 t0 t7) h3 fun t12 =>
    CallsH P 106 #[t3, t12] h3 (fun t13 h4 =>
    Reads P (binS .add 3 true t7 (.int .i64 1)) h4 fun t14 =>
    C1 t14 h4) E) (
      pLoad P 146 t3 h3 fun t15 =>
  pStore P 146 t2 t15 h3 fun h5 =>
  pLoad P 146 t2 h5 fun r3 => R r3 h5))
theorem C95 {E : List PanicEntry → Heap → Prop} {t0 : Value} {h : Heap} {R : Value → Heap → Prop} (hs : S95 Tryz.prog E t0 h R) : CallsH Tryz.prog 95 #[t0] h R E :=
  calls_of_vc H95 Tryz.mixed Tryz.func95 rfl (by kernel_rfl) (by kernel_rfl) (Eq.mp (show S95 Tryz.prog E t0 h R = vcFun Tryz.prog H95 E Tryz.f95.results.toList _ [t0] h R from by kernel_rfl) hs)

def H101 : Hints := { r := fun _ => none, s := fun _ => none, l := fun _ => none, d := fun i => match i with | 1 => some (.cut 1 (.take 0 (.take 1 (.take 2 (.take 3 (.take 4 (.take 5 (.take 6 (.take 7 (.take 8 (.take 9 (.take 10 (.take 11 (.take 12 (.take 13 (.take 14 (.take 15 (.take 16 (.take 17 (.take 18 (.take 19 (.take 20 (.take 21 (.take 22 (.take 23 (.take 24 (.take 25 (.take 26 (.take 27 (.take 28 .done)))))))))))))))))))))))))))))) | _ => none }
def S101 (P : Program) (E : List PanicEntry → Heap → Prop) (t0 t1 t2 : Value) (h : Heap) (R : Value → Heap → Prop) : Prop :=
  Reads P (nilS t0) h fun t8 =>
  Reads P (Instr.fieldAt 168 t8 1) h fun t9 =>
  pLoad P 3 t9 h fun t10 =>
  Reads P (binS .add 3 false t10 t1) h fun t12 =>
  Reads P (nilS t0) h fun t14 =>
  Reads P (Instr.fieldAt 168 t14 0) h fun t15 =>
  pLoad P 115 t15 h fun t16 =>
  Reads P (builtinS .len #[115] 3 #[t16]) h fun t17 =>
  Reads P (binS .lss 3 false t12 t17) h fun t18 =>
  boolV t18 fun b1 => bcase b1 (
  Reads P (nilS t0) h fun t21 =>
  Reads P (Instr.fieldAt 168 t21 0) h fun t22 =>
  pLoad P 115 t22 h fun t23 =>
  Reads P (nilS t0) h fun t25 =>
  Reads P (Instr.fieldAt 168 t25 1) h fun t26 =>
  pLoad P 3 t26 h fun t27 =>
  Reads P (binS .add 3 false t27 t1) h fun t29 =>
  Reads P (Instr.indexAt 115 t23 t29) h fun t30 =>
  pLoad P 5 t30 h fun t31 =>
  Reads P (binS .eql 5 false t31 t2) h fun t33 =>
  R t33 h) (
  R (.bool false) h)
theorem C101 {E : List PanicEntry → Heap → Prop} {t0 t1 t2 : Value} {h : Heap} {R : Value → Heap → Prop} (hs : S101 Tryz.prog E t0 t1 t2 h R) : CallsH Tryz.prog 101 #[t0, t1, t2] h R E :=
  calls_of_vc H101 Tryz.mixed Tryz.func101 rfl (by kernel_rfl) (by kernel_rfl) (Eq.mp (show S101 Tryz.prog E t0 t1 t2 h R = vcFun Tryz.prog H101 E Tryz.f101.results.toList _ [t0, t1, t2] h R from by kernel_rfl) hs)

def H102 : Hints := { r := fun _ => none, s := fun i => match i with | 3 => some [15] | 5 => some [33] | 8 => some [66] | 12 => some [88] | 15 => some [] | _ => none, l := fun _ => none, d := fun i => match i with | 3 => some (.cut 2 (.take 0 (.take 1 (.take 2 (.take 3 (.take 4 (.take 5 (.act 6 (.cut 0 (.act 7 (.cut 1 (.take 8 .done)) .stop)) .stop)))))))) | 5 => some (.cut 1 (.take 0 (.take 1 (.take 2 (.take 3 (.take 4 (.take 5 (.take 6 (.take 7 (.take 8 (.take 9 (.take 10 (.cut 0 (.act 11 (.cut 1 (.take 12 (.take 13 (.take 14 (.take 15 (.take 16 (.take 17 (.take 18 .done)))))))) .stop)))))))))))))) | 8 => some (.cut 2 (.take 0 (.take 1 (.take 2 (.take 3 (.take 4 (.take 5 (.act 6 (.cut 0 (.act 7 (.cut 1 (.take 8 .done)) .stop)) .stop)))))))) | 13 => some (.cut 1 (.take 0 (.take 1 (.take 2 (.take 3 (.take 4 (.take 5 (.take 6 (.take 7 (.take 8 (.take 9 .done))))))))))) | 14 => some (.cut 2 (.take 0 (.take 1 (.take 2 (.take 3 (.take 4 (.take 5 (.take 6 (.act 7 (.cut 0 (.act 8 (.cut 1 (.take 9 .done)) .stop)) .stop))))))))) | 15 => some (.cut 1 (.take 0 (.take 1 (.take 2 (.take 3 (.take 4 (.take 5 (.take 6 (.take 7 (.take 8 (.take 9 (.take 10 (.cut 0 (.act 11 .done .stop)))))))))))))) | 16 => some (.cut 1 (.take 0 (.take 1 (.take 2 (.take 3 (.take 4 (.take 5 (.take 6 (.take 7 (.take 8 (.take 9 (.take 10 (.take 11 (.take 12 (.take 13 (.take 14 (.cut 0 (.act 15 (.cut 1 (.take 16 (.cut 0 (.act 17 .done .stop)))) .stop)))))))))))))))))) | _ => none }
def S102 (P : Program) (E : List PanicEntry → Heap → Prop) (t0 : Value) (h : Heap) (R : Value → Heap → Prop) : Prop :=
  pAlloc P 175 h fun t2 h1 =>
  Reads P (nilS t0) h1 fun t11 =>
  Reads P (Instr.fieldAt 168 t11 1) h1 fun t12 =>
  pLoad P 3 t12 h1 fun t13 =>
  Reads P (Instr.build 175 #[(0, (.bool true)), (3, t13)]) h1 fun t14 =>
  pAlloc P 175 h1 fun t4 h2 =>
  pStore P 175 t4 t14 h2 fun h3 =>
  Join0 (fun J1 =>
    Join1 (fun J2 =>
      CallsH P 101 #[t0, (.int .i64 0), (.int .u8 91)] h3 (fun t17 h4 =>
      boolV t17 fun b3 => bcase b3 (
      CallsH P 101 #[t0, (.int .i64 1), (.int .u8 46)] h4 (fun t20 h5 =>
      boolV t20 fun b4 => bcase b4 (
      J2 (.bool true) h5) (
      CallsH P 101 #[t0, (.int .i64 1), (.int .u8 61)] h5 (fun t23 h6 =>
      J2 t23 h6) E)) E) (
      (undef = undef ∧ ((undef = undef ∧ (J2 (.bool false) h4)))))) E)
    (fun t15 h7 =>
    boolV t15 fun b5 => bcase b5 (
      Stable h7 fun S6 =>
      pLoadS P 175 t4 S6 fun t26 =>
      ReadsS P (nilS t0) S6 fun t29 =>
      ReadsS P (Instr.fieldAt 168 t29 1) S6 fun t30 =>
      pLoadS P 3 t30 S6 fun t31 =>
      (CallsH P 93 #[t0, (.int .i64 8), t31] h7 (fun t32 h8 =>
      S6 h8 ∧ ((pStore P 175 t2 t26 h8 fun h9 =>
      True ∧ (pLoad P 175 t2 h9 fun r7 => R (.tuple #[r7, t32]) h9)) ∧ True)) E) ∧ True) (
      Join1 (fun J8 =>
        CallsH P 101 #[t0, (.int .i64 0), (.int .u8 91)] h7 (fun t35 h10 =>
        boolV t35 fun b9 => bcase b9 (
        CallsH P 101 #[t0, (.int .i64 1), (.int .u8 58)] h10 (fun t38 h11 =>
        J8 t38 h11) E) (
        J8 (.bool false) h10)) E)
      (fun t33 h12 =>
      boolV t33 fun b10 => bcase b10 (
        Reads P (nilS t0) h12 fun t42 =>
        Reads P (Instr.fieldAt 168 t42 0) h12 fun t43 =>
        pLoad P 115 t43 h12 fun t44 =>
        Reads P (nilS t0) h12 fun t46 =>
        Reads P (Instr.fieldAt 168 t46 1) h12 fun t47 =>
        pLoad P 3 t47 h12 fun t48 =>
        Reads P (binS .add 3 true t48 (.int .i64 2)) h12 fun t49 =>
        Reads P (Instr.sliceAt 115 t44 (some t49) none none) h12 fun t50 =>
        Reads P (convert 115 9 t50) h12 fun t51 =>
        (CallsH P 109 #[t51, (str [58, 93])] h12 (fun t52 h13 =>
        True ∧ (Reads P (Instr.extract t52 0) h13 fun t53 =>
        Reads P (Instr.extract t52 1) h13 fun t54 =>
        Reads P (Instr.extract t52 2) h13 fun t55 =>
        CallsH P 110 #[t53] h13 (fun t58 h14 =>
        Reads P (Instr.extract t58 0) h14 fun t59 =>
        Reads P (Instr.extract t58 1) h14 fun t60 =>
        pAlloc P 146 h14 fun t8 h15 =>
        pStore P 146 t8 t59 h15 fun h16 =>
        Join1 (fun J11 =>
          Reads P (Op.unary .not t55) h16 fun t62 =>
          boolV t62 fun b12 => bcase b12 (
          J11 (.bool true) h16) (
          Reads P (Op.unary .not t60) h16 fun t65 =>
          J11 t65 h16))
        (fun t66 h17 =>
        boolV t66 fun b13 => bcase b13 (
          Stable h17 fun S14 =>
          pLoadS P 175 t4 S14 fun t67 =>
          ReadsS P (nilS t0) S14 fun t70 =>
          ReadsS P (Instr.fieldAt 168 t70 1) S14 fun t71 =>
          pLoadS P 3 t71 S14 fun t72 =>
          (CallsH P 93 #[t0, (.int .i64 8), t72] h17 (fun t73 h18 =>
          S14 h18 ∧ ((pStore P 175 t2 t67 h18 fun h19 =>
          True ∧ (pLoad P 175 t2 h19 fun r15 => R (.tuple #[r15, t73]) h19)) ∧ True)) E) ∧ True) (
          Reads P (nilS t0) h17 fun t75 =>
        Reads P (Instr.fieldAt 168 t75 1) h17 fun t76 =>
        pLoad P 3 t76 h17 fun t77 =>
        Reads P (builtinS .len #[9] 3 #[t53]) h17 fun t79 =>
        Reads P (binS .add 3 true t79 (.int .i64 4)) h17 fun t80 =>
        Reads P (binS .add 3 false t77 t80) h17 fun t81 =>
        Reads P (nilS t0) h17 fun t82 =>
        Reads P (Instr.fieldAt 168 t82 1) h17 fun t83 =>
        pStore P 3 t83 t81 h17 fun h20 =>
        pLoad P 146 t8 h20 fun t84 =>
        Reads P (Instr.fieldAt 175 t4 3) h20 fun t85 =>
        pLoad P 3 t85 h20 fun t86 =>
        Reads P (Instr.build 175 #[(2, t84), (3, t86)]) h20 fun t87 =>
        pStore P 175 t2 t87 h20 fun h21 =>
        pLoad P 175 t2 h21 fun r16 => R (.tuple #[r16, .nilIface]) h21))) E)) E) ∧ True) (
        Join1 (fun J17 =>
          CallsH P 101 #[t0, (.int .i64 0), (.int .u8 92)] h12 (fun t90 h22 =>
          boolV t90 fun b18 => bcase b18 (
          Reads P (nilS t0) h22 fun t93 =>
          Reads P (Instr.fieldAt 168 t93 2) h22 fun t94 =>
          pLoad P 3 t94 h22 fun t95 =>
          Reads P (binS .eql 3 true t95 (.int .i64 2)) h22 fun t96 =>
          J17 t96 h22) (
          J17 (.bool false) h22)) E)
        (fun t88 h23 =>
        boolV t88 fun b19 => bcase b19 (
          Reads P (nilS t0) h23 fun t99 =>
          Reads P (Instr.fieldAt 168 t99 1) h23 fun t100 =>
          pLoad P 3 t100 h23 fun t101 =>
          Reads P (binS .add 3 true t101 (.int .i64 1)) h23 fun t102 =>
          Reads P (nilS t0) h23 fun t103 =>
          Reads P (Instr.fieldAt 168 t103 1) h23 fun t104 =>
          pStore P 3 t104 t102 h23 fun h24 =>
          Reads P (nilS t0) h24 fun t106 =>
          Reads P (Instr.fieldAt 168 t106 1) h24 fun t107 =>
          pLoad P 3 t107 h24 fun t108 =>
          Reads P (nilS t0) h24 fun t110 =>
          Reads P (Instr.fieldAt 168 t110 0) h24 fun t111 =>
          pLoad P 115 t111 h24 fun t112 =>
          Reads P (builtinS .len #[115] 3 #[t112]) h24 fun t113 =>
          Reads P (binS .geq 3 false t108 t113) h24 fun t114 =>
          boolV t114 fun b20 => bcase b20 (
            Stable h24 fun S21 =>
            pLoadS P 175 t4 S21 fun t115 =>
            ReadsS P (nilS t0) S21 fun t118 =>
            ReadsS P (Instr.fieldAt 168 t118 0) S21 fun t119 =>
            pLoadS P 115 t119 S21 fun t120 =>
            ReadsS P (builtinS .len #[115] 3 #[t120]) S21 fun t121 =>
            (CallsH P 93 #[t0, (.int .i64 8), t121] h24 (fun t122 h25 =>
            S21 h25 ∧ ((pStore P 175 t2 t115 h25 fun h26 =>
            True ∧ (pLoad P 175 t2 h26 fun r22 => R (.tuple #[r22, t122]) h26)) ∧ True)) E) ∧ True) (
            J1 h24)) (
          J1 h23)))))))
  (fun h27 =>
  Reads P (nilS t0) h27 fun t124 =>
  Reads P (Instr.fieldAt 168 t124 0) h27 fun t125 =>
  pLoad P 115 t125 h27 fun t126 =>
  Reads P (nilS t0) h27 fun t128 =>
  Reads P (Instr.fieldAt 168 t128 1) h27 fun t129 =>
  pLoad P 3 t129 h27 fun t130 =>
  Reads P (Instr.indexAt 115 t126 t130) h27 fun t131 =>
  pLoad P 5 t131 h27 fun t132 =>
  Reads P (Instr.fieldAt 175 t4 1) h27 fun t133 =>
  (pStore P 5 t133 t132 h27 fun h28 =>
  True ∧ (Reads P (nilS t0) h28 fun t135 =>
  Reads P (Instr.fieldAt 168 t135 0) h28 fun t136 =>
  pLoad P 115 t136 h28 fun t137 =>
  Reads P (nilS t0) h28 fun t139 =>
  Reads P (Instr.fieldAt 168 t139 1) h28 fun t140 =>
  pLoad P 3 t140 h28 fun t141 =>
  Reads P (nilS t0) h28 fun t143 =>
  Reads P (Instr.fieldAt 168 t143 1) h28 fun t144 =>
  pLoad P 3 t144 h28 fun t145 =>
  Reads P (binS .add 3 true t145 (.int .i64 1)) h28 fun t146 =>
  Reads P (Instr.sliceAt 115 t137 (some t141) (some t146) none) h28 fun t147 =>
  Reads P (convert 115 9 t147) h28 fun t148 =>
  (CallsH P 95 #[t148] h28 (fun t149 h29 =>
  True ∧ (Reads P (Instr.fieldAt 175 t4 2) h29 fun t150 =>
  (pStore P 146 t150 t149 h29 fun h30 =>
  True ∧ (Reads P (nilS t0) h30 fun t152 =>
  Reads P (Instr.fieldAt 168 t152 1) h30 fun t153 =>
  pLoad P 3 t153 h30 fun t154 =>
  Reads P (binS .add 3 true t154 (.int .i64 1)) h30 fun t155 =>
  Reads P (nilS t0) h30 fun t156 =>
  Reads P (Instr.fieldAt 168 t156 1) h30 fun t157 =>
  pStore P 3 t157 t155 h30 fun h31 =>
  pLoad P 175 t4 h31 fun t158 =>
  pStore P 175 t2 t158 h31 fun h32 =>
  pLoad P 175 t2 h32 fun r23 => R (.tuple #[r23, .nilIface]) h32)) ∧ True)) E) ∧ True)) ∧ True)
theorem C102 {E : List PanicEntry → Heap → Prop} {t0 : Value} {h : Heap} {R : Value → Heap → Prop} (hs : S102 Tryz.prog E t0 h R) : CallsH Tryz.prog 102 #[t0] h R E :=
  calls_of_vc H102 Tryz.mixed Tryz.func102 rfl (by kernel_rfl) (by kernel_rfl) (Eq.mp (show S102 Tryz.prog E t0 h R = vcFun Tryz.prog H102 E Tryz.f102.results.toList _ [t0] h R from by kernel_rfl) hs)

def H103 : Hints := { r := fun _ => none, s := fun i => match i with | 2 => some [32] | _ => none, l := fun _ => none, d := fun i => match i with | 1 => some (.cut 1 (.take 0 (.take 1 (.take 2 (.take 3 (.take 4 (.cut 0 (.act 5 (.cut 1 (.take 6 (.take 7 (.take 8 (.take 9 (.cut 0 (.act 10 (.cut 1 (.take 11 (.take 12 (.take 13 (.take 14 (.take 15 (.take 16 (.take 17 (.take 18 (.take 19 (.take 20 (.take 21 (.take 22 (.take 23 (.take 24 .done))))))))))))))) .stop))))))) .stop)))))))) | 8 => some (.cut 2 (.take 0 (.take 1 (.take 2 (.take 3 (.take 4 (.act 5 (.cut 0 (.act 6 (.cut 1 (.take 7 .done)) .stop)) .stop))))))) | 10 => some (.cut 2 (.take 0 (.take 1 (.take 2 (.take 3 (.take 4 (.act 5 (.cut 0 (.act 6 (.cut 1 (.take 7 .done)) .stop)) .stop))))))) | _ => none }
def S103 (P : Program) (E : List PanicEntry → Heap → Prop) (t0 t1 : Value) (h : Heap) (R : Value → Heap → Prop) : Prop :=
  pNew 175 t1 h fun t3 h1 =>
  pAlloc P 146 h1 fun t4 h2 =>
  Join1 (fun J1 =>
    Reads P (Instr.fieldAt 175 t3 0) h2 fun t8 =>
    pLoad P 4 t8 h2 fun t9 =>
    Reads P (Op.unary .not t9) h2 fun t10 =>
    boolV t10 fun b2 => bcase b2 (
    ((J1 (.bool true) h2) ∧ True) ∧ True) (
    (CallsH P 101 #[t0, (.int .i64 0), (.int .u8 45)] h2 (fun t13 h3 =>
    True ∧ (Reads P (Op.unary .not t13) h3 fun t14 =>
    boolV t14 fun b3 => bcase b3 (
    (J1 (.bool true) h3) ∧ True) (
    (CallsH P 101 #[t0, (.int .i64 1), (.int .u8 93)] h3 (fun t18 h4 =>
    True ∧ (boolV t18 fun b4 => bcase b4 (
    J1 (.bool true) h4) (
    Reads P (nilS t0) h4 fun t22 =>
    Reads P (Instr.fieldAt 168 t22 1) h4 fun t23 =>
    pLoad P 3 t23 h4 fun t24 =>
    Reads P (binS .add 3 true t24 (.int .i64 1)) h4 fun t25 =>
    Reads P (nilS t0) h4 fun t27 =>
    Reads P (Instr.fieldAt 168 t27 0) h4 fun t28 =>
    pLoad P 115 t28 h4 fun t29 =>
    Reads P (builtinS .len #[115] 3 #[t29]) h4 fun t30 =>
    Reads P (binS .geq 3 false t25 t30) h4 fun t31 =>
    J1 t31 h4))) E) ∧ True))) E) ∧ True))
  (fun t32 h5 =>
  boolV t32 fun b5 => bcase b5 (
    Reads P (Instr.fieldAt 175 t3 2) h5 fun t33 =>
    pLoad P 146 t33 h5 fun t34 =>
    pStore P 146 t4 t34 h5 fun h6 =>
    pLoad P 146 t4 h6 fun r6 => R (.tuple #[r6, .nilIface]) h6) (
    Reads P (nilS t0) h5 fun t36 =>
  Reads P (Instr.fieldAt 168 t36 1) h5 fun t37 =>
  pLoad P 3 t37 h5 fun t38 =>
  Reads P (binS .add 3 true t38 (.int .i64 1)) h5 fun t39 =>
  Reads P (nilS t0) h5 fun t40 =>
  Reads P (Instr.fieldAt 168 t40 1) h5 fun t41 =>
  pStore P 3 t41 t39 h5 fun h7 =>
  CallsH P 102 #[t0] h7 (fun t44 h8 =>
  Reads P (Instr.extract t44 0) h8 fun t45 =>
  Reads P (Instr.extract t44 1) h8 fun t46 =>
  pAlloc P 175 h8 fun t6 h9 =>
  pStore P 175 t6 t45 h9 fun h10 =>
  Reads P (binS .neq 26 true t46 .nilIface) h10 fun t49 =>
  boolV t49 fun b7 => bcase b7 (
    Reads P (Instr.fieldAt 175 t3 2) h10 fun t50 =>
    pLoad P 146 t50 h10 fun t51 =>
    pStore P 146 t4 t51 h10 fun h11 =>
    pLoad P 146 t4 h11 fun r8 => R (.tuple #[r8, t46]) h11) (
    Reads P (Instr.fieldAt 175 t6 0) h10 fun t54 =>
    pLoad P 4 t54 h10 fun t55 =>
    Reads P (Op.unary .not t55) h10 fun t56 =>
    boolV t56 fun b9 => bcase b9 (
      Stable h10 fun S10 =>
      ReadsS P (Instr.fieldAt 175 t3 2) S10 fun t57 =>
      pLoadS P 146 t57 S10 fun t58 =>
      ReadsS P (Instr.fieldAt 175 t6 3) S10 fun t60 =>
      pLoadS P 3 t60 S10 fun t61 =>
      (CallsH P 93 #[t0, (.int .i64 8), t61] h10 (fun t62 h12 =>
      S10 h12 ∧ ((pStore P 146 t4 t58 h12 fun h13 =>
      True ∧ (pLoad P 146 t4 h13 fun r11 => R (.tuple #[r11, t62]) h13)) ∧ True)) E) ∧ True) (
      Reads P (Instr.fieldAt 175 t3 1) h10 fun t64 =>
      pLoad P 5 t64 h10 fun t65 =>
      Reads P (Instr.fieldAt 175 t6 1) h10 fun t66 =>
      pLoad P 5 t66 h10 fun t67 =>
      Reads P (binS .gtr 5 false t65 t67) h10 fun t68 =>
      boolV t68 fun b12 => bcase b12 (
        Stable h10 fun S13 =>
        ReadsS P (Instr.fieldAt 175 t3 2) S13 fun t69 =>
        pLoadS P 146 t69 S13 fun t70 =>
        ReadsS P (Instr.fieldAt 175 t3 3) S13 fun t72 =>
        pLoadS P 3 t72 S13 fun t73 =>
        (CallsH P 93 #[t0, (.int .i64 7), t73] h10 (fun t74 h14 =>
        S13 h14 ∧ ((pStore P 146 t4 t70 h14 fun h15 =>
        True ∧ (pLoad P 146 t4 h15 fun r14 => R (.tuple #[r14, t74]) h15)) ∧ True)) E) ∧ True) (
        Reads P (Instr.fieldAt 175 t3 1) h10 fun t75 =>
  pLoad P 5 t75 h10 fun t76 =>
  Reads P (Instr.fieldAt 175 t6 1) h10 fun t77 =>
  pLoad P 5 t77 h10 fun t78 =>
  CallsH P 111 #[t76, t78] h10 (fun t79 h16 =>
  pStore P 146 t4 t79 h16 fun h17 =>
  pLoad P 146 t4 h17 fun r15 => R (.tuple #[r15, .nilIface]) h17) E)))) E))
theorem C103 {E : List PanicEntry → Heap → Prop} {t0 t1 : Value} {h : Heap} {R : Value → Heap → Prop} (hs : S103 Tryz.prog E t0 t1 h R) : CallsH Tryz.prog 103 #[t0, t1] h R E :=
  calls_of_vc H103 Tryz.mixed Tryz.func103 rfl (by kernel_rfl) (by kernel_rfl) (Eq.mp (show S103 Tryz.prog E t0 t1 h R = vcFun Tryz.prog H103 E Tryz.f103.results.toList _ [t0, t1] h R from by kernel_rfl) hs)

def H104 : Hints := { r := fun _ => none, s := fun _ => none, l := fun i => match i with | 3 => some [9] | 6 => some [13] | _ => none, d := fun i => match i with | 8 => some (.cut 1 (.take 0 (.take 1 (.take 2 (.take 3 (.take 4 (.take 5 (.take 6 (.take 7 (.cut 0 (.act 8 .done .stop))))))))))) | _ => none }
def S104 (P : Program) (E : List PanicEntry → Heap → Prop) (t0 : Value) (h : Heap) (R : Value → Heap → Prop) : Prop :=
  pAlloc P 146 h fun t2 h1 =>
  pAlloc P 146 h1 fun t3 h2 =>
  Reads P (builtinS .len #[189] 3 #[t0]) h2 fun t8 =>
  Loop1 (.int .i64 0) h2 (fun C1 t9 h3 =>
    Reads P (binS .lss 3 false t9 t8) h3 fun t10 =>
    boolV t10 fun b2 => bcase b2 (
      Reads P (Instr.indexAt 189 t0 t9) h3 fun t11 =>
    pLoad P 146 t11 h3 fun t12 =>
    pAlloc P 146 h3 fun t5 h4 =>
    pStore P 146 t5 t12 h4 fun h5 =>
    Loop1 (.int .i64 0) h5 (fun C3 t13 h6 =>
      Reads P (binS .lss 3 true t13 (.int .i64 4)) h6 fun t14 =>
      boolV t14 fun b4 => bcase b4 (
        Reads P (Instr.indexAt 146 t3 t13) h6 fun t17 =>
      pLoad P 121 t17 h6 fun t18 =>
      Reads P (Instr.indexAt 146 t5 t13) h6 fun t20 =>
      pLoad P 121 t20 h6 fun t21 =>
      Reads P (binS .or 121 false t18 t21) h6 fun t22 =>
      Reads P (Instr.indexAt 146 t3 t13) h6 fun t23 =>
      (pStore P 121 t23 t22 h6 fun h7 =>
      True ∧ (Reads P (binS .add 3 true t13 (.int .i64 1)) h7 fun t24 =>
      C3 t24 h7)) ∧ True) (
        Reads P (binS .add 3 true t9 (.int .i64 1)) h6 fun t25 =>
    C1 t25 h6))) (
      pLoad P 146 t3 h3 fun t26 =>
  pStore P 146 t2 t26 h3 fun h8 =>
  pLoad P 146 t2 h8 fun r5 => R r5 h8))
theorem C104 {E : List PanicEntry → Heap → Prop} {t0 : Value} {h : Heap} {R : Value → Heap → Prop} (hs : S104 Tryz.prog E t0 h R) : CallsH Tryz.prog 104 #[t0] h R E :=
  calls_of_vc H104 Tryz.mixed Tryz.func104 rfl (by kernel_rfl) (by kernel_rfl) (Eq.mp (show S104 Tryz.prog E t0 h R = vcFun Tryz.prog H104 E Tryz.f104.results.toList _ [t0] h R from by kernel_rfl) hs)

def H105 : Hints := { r := fun _ => none, s := fun _ => none, l := fun i => match i with | 2 => some [4] | _ => none, d := fun _ => none }
def S105 (P : Program) (E : List PanicEntry → Heap → Prop) (t0 : Value) (h : Heap) (R : Value → Heap → Prop) : Prop :=
  pNew 146 t0 h fun t1 h1 =>
  pAlloc P 146 h1 fun t2 h2 =>
  Loop1 (.int .i64 0) h2 (fun C1 t4 h3 =>
    Reads P (binS .lss 3 true t4 (.int .i64 4)) h3 fun t5 =>
    boolV t5 fun b2 => bcase b2 (
      Reads P (Instr.indexAt 146 t1 t4) h3 fun t9 =>
    pLoad P 121 t9 h3 fun t10 =>
    Reads P (Op.unary .xor t10) h3 fun t11 =>
    Reads P (Instr.indexAt 146 t1 t4) h3 fun t12 =>
    pStore P 121 t12 t11 h3 fun h4 =>
    Reads P (binS .add 3 true t4 (.int .i64 1)) h4 fun t13 =>
    C1 t13 h4) (
      pLoad P 146 t1 h3 fun t14 =>
  pStore P 146 t2 t14 h3 fun h5 =>
  pLoad P 146 t2 h5 fun r3 => R r3 h5))
theorem C105 {E : List PanicEntry → Heap → Prop} {t0 : Value} {h : Heap} {R : Value → Heap → Prop} (hs : S105 Tryz.prog E t0 h R) : CallsH Tryz.prog 105 #[t0] h R E :=
  calls_of_vc H105 Tryz.mixed Tryz.func105 rfl (by kernel_rfl) (by kernel_rfl) (Eq.mp (show S105 Tryz.prog E t0 h R = vcFun Tryz.prog H105 E Tryz.f105.results.toList _ [t0] h R from by kernel_rfl) hs)

def H106 : Hints := { r := fun _ => none, s := fun _ => none, l := fun _ => none, d := fun i => match i with | 0 => some (.cut 1 (.take 0 (.take 1 (.take 2 (.take 3 (.take 4 (.take 5 (.take 6 (.take 7 (.take 8 (.take 9 (.take 10 (.take 11 (.cut 0 (.act 12 .done .stop))))))))))))))) | _ => none }
def S106 (P : Program) (E : List PanicEntry → Heap → Prop) (t0 t1 : Value) (h : Heap) (R : Value → Heap → Prop) : Prop :=
  Reads P (binS .quo 5 true t1 (.int .u8 64)) h fun t6 =>
  Reads P (nilS t0) h fun t7 =>
  Reads P (Instr.indexAt 146 t7 t6) h fun t8 =>
  pLoad P 121 t8 h fun t9 =>
  Reads P (binS .rem 5 true t1 (.int .u8 64)) h fun t11 =>
  Reads P (binS .shl 121 true (.int .u64 1) t11) h fun t12 =>
  Reads P (binS .or 121 false t9 t12) h fun t13 =>
  Reads P (nilS t0) h fun t14 =>
  Reads P (Instr.indexAt 146 t14 t6) h fun t15 =>
  (pStore P 121 t15 t13 h fun h1 =>
  True ∧ (R (.tuple #[]) h1)) ∧ True
theorem C106 {E : List PanicEntry → Heap → Prop} {t0 t1 : Value} {h : Heap} {R : Value → Heap → Prop} (hs : S106 Tryz.prog E t0 t1 h R) : CallsH Tryz.prog 106 #[t0, t1] h R E :=
  calls_of_vc H106 Tryz.mixed Tryz.func106 rfl (by kernel_rfl) (by kernel_rfl) (Eq.mp (show S106 Tryz.prog E t0 t1 h R = vcFun Tryz.prog H106 E Tryz.f106.results.toList _ [t0, t1] h R from by kernel_rfl) hs)

def H110 : Hints := { r := fun _ => none, s := fun i => match i with | 18 => some [] | 23 => some [] | 25 => some [] | _ => none, l := fun _ => none, d := fun i => match i with | 23 => some (.cut 2 (.take 0 (.act 1 (.cut 0 (.act 2 (.cut 0 (.act 3 (.cut 0 (.act 4 .done .stop)) .stop)) .stop)) .stop))) | 26 => some (.cut 2 (.take 0 (.take 2 (.take 3 (.take 4 (.act 1 (.cut 0 (.act 5 (.cut 0 (.act 6 (.cut 0 (.act 7 (.cut 0 (.act 8 .done .stop)) .stop)) .stop)) .stop)) .stop)))))) | 28 => some (.cut 2 (.take 0 (.act 1 (.act 2 (.cut 0 (.act 3 (.cut 0 (.act 4 (.cut 0 (.act 5 .done .stop)) .stop)) .stop)) .stop) .stop))) | _ => none }
def S110 (P : Program) (E : List PanicEntry → Heap → Prop) (t0 : Value) (h : Heap) (R : Value → Heap → Prop) : Prop :=
  pAlloc P 146 h fun t2 h1 =>
  CallsH P 111 #[(.int .u8 33), (.int .u8 126)] h1 (fun t9 h2 =>
  CallsH P 111 #[(.int .u8 48), (.int .u8 57)] h2 (fun t10 h3 =>
  pAlloc P 146 h3 fun t4 h4 =>
  pAlloc P 146 h4 fun t5 h5 =>
  pStore P 146 t4 t9 h5 fun h6 =>
  pStore P 146 t5 t10 h6 fun h7 =>
  CallsH P 111 #[(.int .u8 65), (.int .u8 90)] h7 (fun t11 h8 =>
  CallsH P 111 #[(.int .u8 97), (.int .u8 122)] h8 (fun t12 h9 =>
  pAlloc P 146 h9 fun t6 h10 =>
  pAlloc P 146 h10 fun t7 h11 =>
  pStore P 146 t6 t11 h11 fun h12 =>
  pStore P 146 t7 t12 h12 fun h13 =>
  pAlloc P 146 h13 fun t8 h14 =>
  Join0 (fun J1 =>
    Join0 (fun J2 =>
      Join0 (fun J3 =>
        Reads P (binS .eql 9 true t0 (str [97, 108, 110, 117, 109])) h14 fun t15 =>
        boolV t15 fun b4 => bcase b4 (
          pLoad P 146 t5 h14 fun t38 =>
        pStore P 146 t8 t38 h14 fun h15 =>
        J3 h15) (
          Reads P (binS .eql 9 true t0 (str [97, 108, 112, 104, 97])) h14 fun t17 =>
        boolV t17 fun b5 => bcase b5 (
          J3 h14) (
          Reads P (binS .eql 9 true t0 (str [100, 105, 103, 105, 116])) h14 fun t19 =>
        boolV t19 fun b6 => bcase b6 (
          pLoad P 146 t5 h14 fun t44 =>
      pStore P 146 t8 t44 h14 fun h16 =>
      pLoad P 146 t8 h16 fun t75 =>
  pStore P 146 t2 t75 h16 fun h17 =>
  pLoad P 146 t2 h17 fun r7 => R (.tuple #[r7, (.bool true)]) h17) (
          Reads P (binS .eql 9 true t0 (str [117, 112, 112, 101, 114])) h14 fun t21 =>
        boolV t21 fun b8 => bcase b8 (
          pLoad P 146 t6 h14 fun t45 =>
      pStore P 146 t8 t45 h14 fun h18 =>
      pLoad P 146 t8 h18 fun t75_2 =>
  pStore P 146 t2 t75_2 h18 fun h19 =>
  pLoad P 146 t2 h19 fun r9 => R (.tuple #[r9, (.bool true)]) h19) (
          Reads P (binS .eql 9 true t0 (str [108, 111, 119, 101, 114])) h14 fun t23 =>
        boolV t23 fun b10 => bcase b10 (
          pLoad P 146 t7 h14 fun t46 =>
      pStore P 146 t8 t46 h14 fun h20 =>
      pLoad P 146 t8 h20 fun t75_3 =>
  pStore P 146 t2 t75_3 h20 fun h21 =>
  pLoad P 146 t2 h21 fun r11 => R (.tuple #[r11, (.bool true)]) h21) (
          Reads P (binS .eql 9 true t0 (str [115, 112, 97, 99, 101])) h14 fun t25 =>
        boolV t25 fun b12 => bcase b12 (
          CallsH P 111 #[(.int .u8 9), (.int .u8 13)] h14 (fun t47 h22 =>
      pStore P 146 t8 t47 h22 fun h23 =>
      J2 h23) E) (
          Reads P (binS .eql 9 true t0 (str [98, 108, 97, 110, 107])) h14 fun t27 =>
        boolV t27 fun b13 => bcase b13 (
          J2 h14) (
          Reads P (binS .eql 9 true t0 (str [112, 114, 105, 110, 116])) h14 fun t29 =>
        boolV t29 fun b14 => bcase b14 (
          CallsH P 95 #[(str [32])] h14 (fun t52 h24 =>
    pStore P 146 t8 t52 h24 fun h25 =>
    J1 h25) E) (
          Reads P (binS .eql 9 true t0 (str [103, 114, 97, 112, 104])) h14 fun t31 =>
        boolV t31 fun b15 => bcase b15 (
          J1 h14) (
          Reads P (binS .eql 9 true t0 (str [112, 117, 110, 99, 116])) h14 fun t33 =>
        boolV t33 fun b16 => bcase b16 (
          Stable h14 fun S17 =>
  pLoadS P 146 t4 S17 fun t57 =>
  pLoadS P 146 t5 S17 fun t59 =>
  pLoadS P 146 t6 S17 fun t60 =>
  pLoadS P 146 t7 S17 fun t61 =>
  (CallsH P 105 #[t57] h14 (fun t58 h26 =>
  S17 h26 ∧ ((Runs P (vS (Instr.buildSlice 189 4 #[(0, t58), (1, t59), (2, t60), (3, t61)])) h26 (fun t62 h27 =>
  True ∧ ((CallsH P 104 #[t62] h27 (fun t63 h28 =>
  True ∧ ((CallsH P 105 #[t63] h28 (fun t64 h29 =>
  True ∧ ((pStore P 146 t8 t64 h29 fun h30 =>
  True ∧ (pLoad P 146 t8 h30 fun t75_4 =>
  pStore P 146 t2 t75_4 h30 fun h31 =>
  pLoad P 146 t2 h31 fun r18 => R (.tuple #[r18, (.bool true)]) h31)) ∧ True)) E) ∧ True)) E) ∧ True)) E) ∧ True)) E) ∧ True) (
          Reads P (binS .eql 9 true t0 (str [99, 110, 116, 114, 108])) h14 fun t35 =>
        boolV t35 fun b19 => bcase b19 (
          CallsH P 111 #[(.int .u8 0), (.int .u8 31)] h14 (fun t65 h32 =>
  CallsH P 95 #[(str [127])] h32 (fun t66 h33 =>
  Runs P (vS (Instr.buildSlice 189 2 #[(0, t65), (1, t66)])) h33 (fun t67 h34 =>
  CallsH P 104 #[t67] h34 (fun t68 h35 =>
  pStore P 146 t8 t68 h35 fun h36 =>
  pLoad P 146 t8 h36 fun t75_5 =>
  pStore P 146 t2 t75_5 h36 fun h37 =>
  pLoad P 146 t2 h37 fun r20 => R (.tuple #[r20, (.bool true)]) h37) E) E) E) E) (
          Reads P (binS .eql 9 true t0 (str [120, 100, 105, 103, 105, 116])) h14 fun t37 =>
        boolV t37 fun b21 => bcase b21 (
          Stable h14 fun S22 =>
  pLoadS P 146 t5 S22 fun t69 =>
  (CallsH P 111 #[(.int .u8 97), (.int .u8 102)] h14 (fun t70 h38 =>
  S22 h38 ∧ ((CallsH P 111 #[(.int .u8 65), (.int .u8 70)] h38 (fun t71 h39 =>
  S22 h39 ∧ ((Runs P (vS (Instr.buildSlice 189 3 #[(0, t69), (1, t70), (2, t71)])) h39 (fun t72 h40 =>
  True ∧ ((CallsH P 104 #[t72] h40 (fun t73 h41 =>
  True ∧ ((pStore P 146 t8 t73 h41 fun h42 =>
  True ∧ (pLoad P 146 t8 h42 fun t75_6 =>
  pStore P 146 t2 t75_6 h42 fun h43 =>
  pLoad P 146 t2 h43 fun r23 => R (.tuple #[r23, (.bool true)]) h43)) ∧ True)) E) ∧ True)) E) ∧ True)) E) ∧ True)) E) ∧ True) (
          Reads P (Instr.build 146 #[]) h14 fun t74 =>
  pStore P 146 t2 t74 h14 fun h44 =>
  pLoad P 146 t2 h44 fun r24 => R (.tuple #[r24, (.bool false)]) h44)))))))))))))
      (fun h45 =>
      pLoad P 146 t8 h45 fun t39 =>
      pLoad P 146 t6 h45 fun t40 =>
      pLoad P 146 t7 h45 fun t41 =>
      Runs P (vS (Instr.buildSlice 189 3 #[(0, t39), (1, t40), (2, t41)])) h45 (fun t42 h46 =>
      CallsH P 104 #[t42] h46 (fun t43 h47 =>
      pStore P 146 t8 t43 h47 fun h48 =>
      pLoad P 146 t8 h48 fun t75_7 =>
  pStore P 146 t2 t75_7 h48 fun h49 =>
  pLoad P 146 t2 h49 fun r25 => R (.tuple #[r25, (.bool true)]) h49) E) E))
    (fun h50 =>
    Stable h50 fun S26 =>
    pLoadS P 146 t8 S26 fun t48 =>
    (CallsH P 95 #[(str [9, 32])] h50 (fun t49 h51 =>
    S26 h51 ∧ ((Runs P (vS (Instr.buildSlice 189 2 #[(0, t48), (1, t49)])) h51 (fun t50 h52 =>
    True ∧ ((CallsH P 104 #[t50] h52 (fun t51 h53 =>
    True ∧ ((pStore P 146 t8 t51 h53 fun h54 =>
    True ∧ (pLoad P 146 t8 h54 fun t75_8 =>
  pStore P 146 t2 t75_8 h54 fun h55 =>
  pLoad P 146 t2 h55 fun r27 => R (.tuple #[r27, (.bool true)]) h55)) ∧ True)) E) ∧ True)) E) ∧ True)) E) ∧ True))
  (fun h56 =>
  pLoad P 146 t8 h56 fun t53 =>
  pLoad P 146 t4 h56 fun t54 =>
  Runs P (vS (Instr.buildSlice 189 2 #[(0, t53), (1, t54)])) h56 (fun t55 h57 =>
  CallsH P 104 #[t55] h57 (fun t56 h58 =>
  pStore P 146 t8 t56 h58 fun h59 =>
  pLoad P 146 t8 h59 fun t75_9 =>
  pStore P 146 t2 t75_9 h59 fun h60 =>
  pLoad P 146 t2 h60 fun r28 => R (.tuple #[r28, (.bool true)]) h60) E) E)) E) E) E) E
theorem C110 {E : List PanicEntry → Heap → Prop} {t0 : Value} {h : Heap} {R : Value → Heap → Prop} (hs : S110 Tryz.prog E t0 h R) : CallsH Tryz.prog 110 #[t0] h R E :=
  calls_of_vc H110 Tryz.mixed Tryz.func110 rfl (by kernel_rfl) (by kernel_rfl) (Eq.mp (show S110 Tryz.prog E t0 h R = vcFun Tryz.prog H110 E Tryz.f110.results.toList _ [t0] h R from by kernel_rfl) hs)

def H111 : Hints := { r := fun _ => none, s := fun _ => none, l := fun i => match i with | 3 => some [6] | _ => none, d := fun _ => none }
def S111 (P : Program) (E : List PanicEntry → Heap → Prop) (t0 t1 : Value) (h : Heap) (R : Value → Heap → Prop) : Prop :=
  pAlloc P 146 h fun t4 h1 =>
  pAlloc P 146 h1 fun t5 h2 =>
  Reads P (convert 5 3 t0) h2 fun t8 =>
  Loop1 t8 h2 (fun C1 t6 h3 =>
    Reads P (convert 5 3 t1) h3 fun t11 =>
    Reads P (binS .leq 3 false t6 t11) h3 fun t12 =>
    boolV t12 fun b2 => bcase b2 (
      Reads P (convert 3 5 t6) h3 fun t16 =>
    CallsH P 106 #[t5, t16] h3 (fun t17 h4 =>
    Reads P (binS .add 3 true t6 (.int .i64 1)) h4 fun t14 =>
    C1 t14 h4) E) (
      pLoad P 146 t5 h3 fun t18 =>
  pStore P 146 t4 t18 h3 fun h5 =>
  pLoad P 146 t4 h5 fun r3 => R r3 h5))
theorem C111 {E : List PanicEntry → Heap → Prop} {t0 t1 : Value} {h : Heap} {R : Value → Heap → Prop} (hs : S111 Tryz.prog E t0 t1 h R) : CallsH Tryz.prog 111 #[t0, t1] h R E :=
  calls_of_vc H111 Tryz.mixed Tryz.func111 rfl (by kernel_rfl) (by kernel_rfl) (Eq.mp (show S111 Tryz.prog E t0 t1 h R = vcFun Tryz.prog H111 E Tryz.f111.results.toList _ [t0, t1] h R from by kernel_rfl) hs)

def H140 : Hints := { r := fun _ => none, s := fun _ => none, l := fun _ => none, d := fun _ => none }
def S140 (P : Program) (E : List PanicEntry → Heap → Prop) (t0 : Value) (h : Heap) (R : Value → Heap → Prop) : Prop :=
  Reads P (nilS t0) h fun t4 =>
  Reads P (Instr.fieldAt 75 t4 0) h fun t5 =>
  pLoad P 26 t5 h fun t6 =>
  R t6 h
theorem C140 {E : List PanicEntry → Heap → Prop} {t0 : Value} {h : Heap} {R : Value → Heap → Prop} (hs : S140 Tryz.prog E t0 h R) : CallsH Tryz.prog 140 #[t0] h R E :=
  calls_of_vc H140 Tryz.mixed Tryz.func140 rfl (by kernel_rfl) (by kernel_rfl) (Eq.mp (show S140 Tryz.prog E t0 h R = vcFun Tryz.prog H140 E Tryz.f140.results.toList _ [t0] h R from by kernel_rfl) hs)

def H142 : Hints := { r := fun _ => none, s := fun _ => none, l := fun _ => none, d := fun _ => none }
def S142 (P : Program) (E : List PanicEntry → Heap → Prop) (t0 : Value) (h : Heap) (R : Value → Heap → Prop) : Prop :=
  Reads P (nilS t0) h fun t4 =>
  Reads P (Instr.fieldAt 79 t4 0) h fun t5 =>
  pLoad P 26 t5 h fun t6 =>
  R t6 h
theorem C142 {E : List PanicEntry → Heap → Prop} {t0 : Value} {h : Heap} {R : Value → Heap → Prop} (hs : S142 Tryz.prog E t0 h R) : CallsH Tryz.prog 142 #[t0] h R E :=
  calls_of_vc H142 Tryz.mixed Tryz.func142 rfl (by kernel_rfl) (by kernel_rfl) (Eq.mp (show S142 Tryz.prog E t0 h R = vcFun Tryz.prog H142 E Tryz.f142.results.toList _ [t0] h R from by kernel_rfl) hs)

end Go.Proofs
