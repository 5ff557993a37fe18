/- A part of the proofs over this seat: Eqs. -/
import Derived.Test.YthlncmkeccgfeaaGreatDoorCvt
import Derived.Laws.StructEq
set_option linter.unusedVariables false
set_option linter.unusedSimpArgs false
set_option maxRecDepth 100000
namespace Go.Proofs
open Go.Vcg
namespace Rt
theorem eqSet (a b c d a' b' c' d' : Int) (w : World) : (Op.equalIn 10000 33 (.agg #[.int .u64 a, .int .u64 b, .int .u64 c, .int .u64 d]) (.agg #[.int .u64 a', .int .u64 b', .int .u64 c', .int .u64 d'])).run Tryz.prog w = .ok (a == a' && (b == b' && (c == c' && d == d'))) w := by
  have h31 : ∀ (x y : Int) (w : World), (Op.equalIn 9999 31 (.int .u64 x) (.int .u64 y)).run Tryz.prog w = .ok (x == y) w := fun x y w => run_equalIn_int (P := Tryz.prog) w 9998 31 .u64 .u64 x y Tryz.underlying31
  have q0 : ∀ (x0 x1 x2 x3 : Value) (w : World), (part 31 #[x0, x1, x2, x3] 0).run Tryz.prog w = .ok x0 w := fun _ _ _ _ _ => by kernel_rfl
  have q1 : ∀ (x0 x1 x2 x3 : Value) (w : World), (part 31 #[x0, x1, x2, x3] 1).run Tryz.prog w = .ok x1 w := fun _ _ _ _ _ => by kernel_rfl
  have q2 : ∀ (x0 x1 x2 x3 : Value) (w : World), (part 31 #[x0, x1, x2, x3] 2).run Tryz.prog w = .ok x2 w := fun _ _ _ _ _ => by kernel_rfl
  have q3 : ∀ (x0 x1 x2 x3 : Value) (w : World), (part 31 #[x0, x1, x2, x3] 3).run Tryz.prog w = .ok x3 w := fun _ _ _ _ _ => by kernel_rfl
  rw [Op.equalIn]
  simp [Go.underlying, program, Sem.run, Tryz.underlying33, size_run Tryz.size31, Std.Legacy.Range.forIn_eq_forIn_range', List.range', h31, q0, q1, q2, q3]
  by_cases e1 : a = a' <;> by_cases e2 : b = b' <;> by_cases e3 : c = c' <;> by_cases e4 : d = d' <;> simp [e1, e2, e3, e4]
theorem guard33 (op : BinOp) (c : Bool) (xs ys : Array Value) (w : World) : (guardS op 33 c (.agg xs) (.agg ys)).run Tryz.prog w = .ok () w := by
  have e : Tryz.prog.eqGuardType Tryz.prog.depth 33 = false := by kernel_rfl
  cases op <;> simp [guardS, program, Sem.run, e]
theorem W4.inj {s u : W4} : s = u ↔ (s.a : Int) = u.a ∧ (s.b : Int) = u.b ∧ (s.c : Int) = u.c ∧ (s.d : Int) = u.d := by
  cases s; cases u; simp only [W4.mk.injEq]; omega
theorem reads_neqSet {c : Bool} {s u : W4} {h : Heap} {k : Value → Prop} : Reads Tryz.prog (binS .neq 33 c (.agg s.vals.toArray) (.agg u.vals.toArray)) h k = k (.bool (!decide (s = u))) := reads_pure fun w => by
  simp only [binS, Sem.run_bind, guard33, Result.andThen_ok]
  rw [run_neq_struct]
  have := eqSet s.a s.b s.c s.d u.a u.b u.c u.d w
  simp only [W4.vals]
  rw [this]
  simp only [Result.andThen_ok]
  congr 3
  have e : decide (s = u) = decide ((s.a : Int) = u.a ∧ (s.b : Int) = u.b ∧ (s.c : Int) = u.c ∧ (s.d : Int) = u.d) := decide_eq_decide.2 W4.inj
  rw [e]
  simp
  rfl
theorem reads_eqSet {c : Bool} {s u : W4} {h : Heap} {k : Value → Prop} : Reads Tryz.prog (binS .eql 33 c (.agg s.vals.toArray) (.agg u.vals.toArray)) h k = k (.bool (decide (s = u))) := reads_pure fun w => by
  simp only [binS, Sem.run_bind, guard33, Result.andThen_ok]
  rw [run_eql_struct]
  have := eqSet s.a s.b s.c s.d u.a u.b u.c u.d w
  simp only [W4.vals]
  rw [this]
  simp only [Result.andThen_ok]
  congr 2
  have e : decide (s = u) = decide ((s.a : Int) = u.a ∧ (s.b : Int) = u.b ∧ (s.c : Int) = u.c ∧ (s.d : Int) = u.d) := decide_eq_decide.2 W4.inj
  rw [e]
  simp
  rfl
end Rt
end Go.Proofs
