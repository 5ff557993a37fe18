/- A part of the proofs over this seat: Prs. -/
import Derived.Test.YthlncmkeccgfeaaGreatDoorWho
import Derived.Recover
set_option linter.unusedVariables false
set_option linter.unusedSimpArgs false
set_option maxRecDepth 100000
namespace Go.Vcg
variable {P : Program}

/-- a piece of an activation that defers: what comes behind it, and what is known of the slots -/
def looksK (outs : List Nat) (rets : List Nat) (kn kr : List Value → Heap → Prop) : Exit → Fr → Heap → Prop
  | .normal, fr, h => need (looks fr outs) fun vs => kn vs h
  | .ret, fr, h => need (looks fr rets) fun vs => kr vs h
  | _, _, _ => False
theorem looks_agrees {D : List Deferred} {n : Nat} {a : Act} {fr : Fr} {outs : List Nat} {vs : List Value} (ha : Agrees D n a fr) (hl : looks fr outs = some vs) : Agrees D n a (zipF outs vs []) :=
  looks_zip ha.defers ha.size (fun t v h => by cases h) hl ha
theorem piece {H : Hints} {E : List PanicEntry → Heap → Prop} {D : List Deferred} {n : Nat} {w₀ : World} {c1 c2 : Code} {Q : Exit → Act → World → Prop} {outs rets : List Nat} {kn kr : List Value → Heap → Prop}
    (hm : P.follows .mixedOrders = true) {fr : Fr} {a : Act} {w : World} (hok : okCode n c1 = true) (ha : Agrees D n a fr) (hw : Same w₀ w) (hv : vc P H E c1 fr w.heap (looksK outs rets kn kr))
    (hE : ∀ c a w, Same w₀ w → E c w.heap → a.defers = D → Q (.panic c) a w) (hr : ∀ vs a w, Agrees D n a (zipF rets vs []) → Same w₀ w → kr vs w.heap → Q .ret a w)
    (hn : ∀ vs a w, Agrees D n a (zipF outs vs []) → Same w₀ w → kn vs w.heap → c2.wp P Q a w) : (Code.seq c1 c2).wp P Q a w := by
  refine wp_seq (wp_mono (vc_sound (w₀ := w₀) (E := E) hm c1 _ _ _ w hok ha hw hv) ?_)
  intro e a' w' ho
  cases e with
  | panic c => exact hE c a' w' ho.1 ho.2.1 ho.2.2
  | normal =>
    obtain ⟨h1, _, fr', h3, h4⟩ := ho
    obtain ⟨vs, hl, hk⟩ := need_elim h4
    exact hn vs a' w' (looks_agrees h3 hl) h1 hk
  | ret =>
    obtain ⟨h1, _, fr', h3, h4⟩ := ho
    obtain ⟨vs, hl, hk⟩ := need_elim h4
    exact hr vs a' w' (looks_agrees h3 hl) h1 hk
  | exit id => obtain ⟨_, _, fr, _, h4⟩ := ho; exact h4.elim
  | goto l => obtain ⟨_, _, fr, _, h4⟩ := ho; exact h4.elim
  | outgrown => obtain ⟨_, _, fr, _, h4⟩ := ho; exact h4.elim
theorem last_piece {H : Hints} {E : List PanicEntry → Heap → Prop} {D : List Deferred} {n : Nat} {w₀ : World} {c1 : Code} {Q : Exit → Act → World → Prop} {outs rets : List Nat} {kn kr : List Value → Heap → Prop}
    (hm : P.follows .mixedOrders = true) {fr : Fr} {a : Act} {w : World} (hok : okCode n c1 = true) (ha : Agrees D n a fr) (hw : Same w₀ w) (hv : vc P H E c1 fr w.heap (looksK outs rets kn kr))
    (hE : ∀ c a w, Same w₀ w → E c w.heap → a.defers = D → Q (.panic c) a w) (hr : ∀ vs a w, Agrees D n a (zipF rets vs []) → Same w₀ w → kr vs w.heap → Q .ret a w)
    (hn : ∀ vs a w, Agrees D n a (zipF outs vs []) → Same w₀ w → kn vs w.heap → Q .normal a w) : c1.wp P Q a w := by
  refine wp_mono (vc_sound (w₀ := w₀) (E := E) hm c1 _ _ _ w hok ha hw hv) ?_
  intro e a' w' ho
  cases e with
  | panic c => exact hE c a' w' ho.1 ho.2.1 ho.2.2
  | normal =>
    obtain ⟨h1, _, fr', h3, h4⟩ := ho
    obtain ⟨vs, hl, hk⟩ := need_elim h4
    exact hn vs a' w' (looks_agrees h3 hl) h1 hk
  | ret =>
    obtain ⟨h1, _, fr', h3, h4⟩ := ho
    obtain ⟨vs, hl, hk⟩ := need_elim h4
    exact hr vs a' w' (looks_agrees h3 hl) h1 hk
  | exit id => obtain ⟨_, _, fr, _, h4⟩ := ho; exact h4.elim
  | goto l => obtain ⟨_, _, fr, _, h4⟩ := ho; exact h4.elim
  | outgrown => obtain ⟨_, _, fr, _, h4⟩ := ho; exact h4.elim
def cHead : Code → Code
  | .seq a _ => a
  | c => c
def cTail : Code → Code
  | .seq _ b => b
  | c => c
end Go.Vcg
namespace Go.Proofs
open Go.Vcg
namespace Rt
attribute [local congr] Reads.congr ReadsS.congr pLoad.congr pLoadS.congr pStore.congr Runs.congr CallsH.congr bcase.congr boolV.congr Stable.congr pAlloc.congr
variable {S : Glb} {n : Nat} {h : Heap} {r : Nat} {bv : Value} {l : List UInt8} {p : Nat} {ext : Bool} {op gr : Nat} {R : Value → Heap → Prop} {E : List PanicEntry → Heap → Prop}
def H11A : Hints := { r := fun _ => none, s := fun _ => none, l := fun _ => none, d := fun _ => none }
def S11A (P : Program) (E : List PanicEntry → Heap → Prop) (t0 t1 : Value) (h : Heap) (k : List Value → Heap → Prop) : Prop :=
  pAlloc P 24 h fun t4 h1 =>
  pAlloc P 26 h1 fun t5 h2 =>
  k [t0, t1, t4, t5] h2
def H11B : Hints := { r := fun _ => none, s := fun _ => none, l := fun _ => none, d := fun _ => none }
def S11B (P : Program) (E : List PanicEntry → Heap → Prop) (t0 t1 t4 t5 : Value) (h : Heap) (k : List Value → Heap → Prop) : Prop :=
  Reads P (Instr.build 57 #[(0, t0), (2, t1)]) h fun t10 =>
  pNew 57 t10 h fun t11 h1 =>
  k [t0, t1, t4, t5, t11] h1
def H11C : Hints := { r := fun _ => none, s := fun _ => none, l := fun _ => none, d := fun _ => none }
def S11C (P : Program) (E : List PanicEntry → Heap → Prop) (t0 t1 t4 t5 t6 : Value) (h : Heap) (k : List Value → Heap → Prop) : Prop :=
  Reads P (builtinS .len #[29] 3 #[t0]) h fun t13 =>
  Reads P (binS .gtr 3 true t13 (.int .i64 256)) h fun t14 =>
  boolV t14 fun b1 => bcase b1 (
    CallsH P 27 #[(.int .i64 2)] h (fun t15 h1 =>
    CallsH P 26 #[t15, (.int .i64 0)] h1 (fun t16 h2 =>
    CallsH P 28 #[t6] h2 (fun t18 h3 =>
    CallsH P 25 #[t16, t18] h3 (fun t19 h4 =>
    pStore P 24 t4 (.pointer none) h4 fun h5 =>
    pStore P 26 t5 t19 h5 fun h6 =>
    False) E) E) E) E) (
    k [t0, t1, t4, t5, t6] h)
def H11E : Hints := { r := fun _ => none, s := fun _ => none, l := fun _ => none, d := fun i => match i with | 6 => some (.cut 1 (.take 0 (.take 1 (.take 2 (.take 3 (.take 4 (.take 5 (.take 6 (.cut 0 (.act 7 (.cut 0 (.act 8 (.cut 0 (.act 9 .done .stop)) .stop)) .stop)))))))))) | _ => none }
def S11E (P : Program) (E : List PanicEntry → Heap → Prop) (t0 t1 t4 t5 t6 : Value) (h : Heap) (k : List Value → Heap → Prop) : Prop :=
  CallsH P 31 #[t6] h (fun t22 h1 =>
  pAlloc P 36 h1 fun t7 h2 =>
  pStore P 36 t7 t22 h2 fun h3 =>
  pLoad P 36 t7 h3 fun t23 =>
  Reads P (nilS t6) h3 fun t25 =>
  Reads P (Instr.fieldAt 57 t25 4) h3 fun t26 =>
  pLoad P 3 t26 h3 fun t27 =>
  Reads P (Instr.build 66 #[(0, t23), (1, t27), (2, t1)]) h3 fun t29 =>
  (pNew 66 t29 h3 fun t30 h4 =>
  True ∧ ((pStore P 24 t4 t30 h4 fun h5 =>
  True ∧ ((pStore P 26 t5 .nilIface h5 fun h6 =>
  True ∧ (k [t4, t5] h6)) ∧ True)) ∧ True)) ∧ True) E
noncomputable def body11 : Code := Tryz.f11.body.getD .skip
noncomputable def c11A : Code := cHead body11
noncomputable def c11B : Code := cHead (cTail body11)
noncomputable def c11C : Code := cHead (cTail (cTail body11))
noncomputable def c11D : Code := cHead (cTail (cTail (cTail body11)))
noncomputable def c11E : Code := cTail (cTail (cTail (cTail body11)))
theorem body11_eq : Tryz.f11.body = some (.seq c11A (.seq c11B (.seq c11C (.seq c11D c11E)))) := by kernel_rfl
theorem V11A {E : List PanicEntry → Heap → Prop} {t0 t1 : Value} {h : Heap} {k k' : List Value → Heap → Prop} : S11A Tryz.prog E t0 t1 h k = vc Tryz.prog H11A E c11A (enumF 0 [t0, t1]) h (looksK [0, 1, 4, 5] [] k k') := by kernel_rfl
theorem V11B {E : List PanicEntry → Heap → Prop} {t0 t1 t4 t5 : Value} {h : Heap} {k k' : List Value → Heap → Prop} : S11B Tryz.prog E t0 t1 t4 t5 h k = vc Tryz.prog H11B E c11B (zipF [0, 1, 4, 5] [t0, t1, t4, t5] []) h (looksK [0, 1, 4, 5, 6] [] k k') := by kernel_rfl
theorem V11C {E : List PanicEntry → Heap → Prop} {t0 t1 t4 t5 t6 : Value} {h : Heap} {k : List Value → Heap → Prop} : S11C Tryz.prog E t0 t1 t4 t5 t6 h k = vc Tryz.prog H11C E c11C (zipF [0, 1, 4, 5, 6] [t0, t1, t4, t5, t6] []) h (looksK [0, 1, 4, 5, 6] [] k (fun _ _ => False)) := by kernel_rfl
theorem V11E {E : List PanicEntry → Heap → Prop} {t0 t1 t4 t5 t6 : Value} {h : Heap} {k : List Value → Heap → Prop} : S11E Tryz.prog E t0 t1 t4 t5 t6 h k = vc Tryz.prog H11E E c11E (zipF [0, 1, 4, 5, 6] [t0, t1, t4, t5, t6] []) h (looksK [] [4, 5] (fun _ _ => False) k) := by kernel_rfl
end Rt
end Go.Proofs
