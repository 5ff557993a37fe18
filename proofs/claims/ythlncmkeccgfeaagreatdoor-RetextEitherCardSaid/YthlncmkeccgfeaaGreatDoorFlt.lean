/- A part of the proofs over this seat: Flt. -/
import Derived.Test.YthlncmkeccgfeaaGreatDoorLaw6
import Derived.Laws.OwnMore
import Derived.Laws.StructEq
set_option linter.unusedVariables false
set_option linter.unusedSimpArgs false
set_option maxRecDepth 100000
namespace Go.Proofs
open Go.Vcg
namespace Rt
attribute [local congr] Reads.congr ReadsS.congr pLoad.congr pLoadS.congr pStore.congr Runs.congr CallsH.congr bcase.congr boolV.congr Stable.congr pAlloc.congr
variable {S : Glb} {n : Nat} {h : Heap} {r : Nat} {bv : Value} {l : List UInt8} {p : Nat} {ext : Bool} {op gr : Nat} {R : Value → Heap → Prop} {E : List PanicEntry → Heap → Prop}

/-! ### Slices of bytes put together -/
theorem runs_empty {K : Value → Heap → Prop} (hk : ∀ v h', ByteRow h' h.size v [] → Al h h' (.cells #[] 5 (0, 0)) → K v h') : Runs Tryz.prog (vS (Instr.buildSlice 29 0 #[])) h K E := by
  obtain ⟨i, h1, h2, h3, h4⟩ := Tryz.info5
  intro w hw
  subst hw
  have hr : (Instr.buildSlice 29 0 #[]).run Tryz.prog w = .ok (.slice (some ⟨w.heap.size, 0, none⟩) 0 0) (w.alloc (.cells #[] 5)) := by
    simp [Instr.buildSlice, Go.underlying, program, Sem.run, Tryz.underlying29, sizeOf, typeInfo, h1, Instr.fill, newRow, newObj]
    have e : Array.map (fun (x : Nat) => (default : Value)) (Array.range 0) = #[] := by simp [Array.range]
    rw [e]
  simp only [vS, Sem.run_bind, hr, Result.andThen_ok, Sem.run_pure, uponH]
  refine ⟨⟨rfl, rfl, rfl⟩, hk _ _ ⟨rfl, .inr ⟨w.heap.size, 0, #[], rfl, Nat.le_refl _, (Al.push ..).at_, Nat.le_refl _, by simp [maxLen], rfl, rfl⟩⟩ (Al.push ..)⟩
theorem ByteRow.al {v : Value} {o : Obj} {h' : Heap} (b : ByteRow h n v l) (a : Al h h' o) : ByteRow h' n v l := by
  obtain ⟨hl, ho⟩ := b
  refine ⟨hl, ho.imp id ?_⟩
  rintro ⟨g, cap, cur, e1, e2, e3, e4⟩
  exact ⟨g, cap, cur, e1, e2, (a.old g (at_lt e3)).trans e3, e4⟩
theorem push_bytes {v u : Value} {m : List UInt8} {K : Value → Heap → Prop} (b : ByteRow h n v l) (hu : IsBytes h u m) (hn : n ≤ h.size) (hlen : l.length + m.length ≤ 1000000000) (hK : ∀ v' h', ByteRow h' n v' (l ++ m) → (∀ r, Fm n r h h') → K v' h') :
    Runs Tryz.prog (builtin .append #[29, 29] 29 #[false, false] #[v, u]) h K E := by
  rcases hu with ⟨rfl, rfl⟩ | ⟨bl, o, c, rfl, hc, hat0⟩
  · obtain ⟨i, h1, h2, h3, h4⟩ := Tryz.info5
    intro w hw
    subst hw
    have hr := run_append_owned_none (P := Tryz.prog) (w := w) n 29 29 5 i 1 Tryz.underlying29 h1 v l.length (l.map bval) b
    simp only [builtin, Sem.run_bind, hr, Result.andThen_ok, Sem.run_pure, uponH]
    refine ⟨⟨rfl, rfl, rfl⟩, hK v w.heap (by simpa using b) fun r => Fm.refl ..⟩
  · have hb := b
    refine runs_append' (size := 1) (bytes := 1) (news := m.map bval) Tryz.info5 Tryz.underlying29 rfl (by omega) b (by simp) ?_ ?_ (by simp [maxLen]; omega) (by omega) hn fun v' h2 ho' hg hnil hat => ?_
    · intro j x hj
      obtain ⟨hjl, hx⟩ := List.getElem?_eq_some_iff.1 hj
      rw [addr_add]
      have := hat0 j (by simpa using hjl)
      simp only [List.getElem_map] at hx
      rw [← hx]
      exact this
    · intro x hx
      obtain ⟨y, _, rfl⟩ := List.mem_map.1 hx
      rfl
    · refine hK v' h2 ?_ fun r => ?_
      · unfold ByteRow
        simpa using ho'
      · refine ⟨hg.size, fun k hk _ => ?_⟩
        refine hg.block k (by omega) fun e => ?_
        rcases hb.2 with ⟨rfl, _⟩ | ⟨g, cap, cur, rfl, e2, _⟩
        · cases e
        · have : k = g := by simpa [Value.ownBlock] using e
          omega
/-- how many bytes are an opening sign -/
theorem groups_of {l : List UInt8} (hb : IsBytes h bv l) (hl : l.length ≤ 65536) (hk : R (.int .i64 (l.count 40)) h) : CallsH Tryz.prog 18 #[bv] h R E := by
  refine C18 ?_
  unfold S18
  rw [reads_blen hb Tryz.underlying29]
  refine Loop2.fuel (fun k v a h' => h' = h ∧ ∃ i : Nat, i ≤ l.length ∧ k = l.length - i ∧ a = .int .i64 i ∧ v = .int .i64 ((l.take i).count 40)) (n := l.length) ⟨rfl, 0, by omega, by simp, rfl, rfl⟩ fun k v a h1 hi => ?_
  obtain ⟨rfl, i, hi, rfl, rfl, rfl⟩ := hi
  rw [reads_lt, dec_nn_lt, boolV_bool]
  refine bcase_of (fun hc => ?_) (fun hc => ?_)
  · have hlt : i < l.length := of_decide_eq_true hc
    have hcl : (l.take i).count 40 ≤ i := Nat.le_trans List.count_le_length (by simp; omega)
    refine idx_load hb Tryz.underlying29 Tryz.size5 Tryz.agg5 hlt ?_
    have e8 : decide ((l[i].toNat : Int) = 40) = decide (l[i] = 40) := dec_u8_eq l[i] 40
    rw [reads_eq, e8, boolV_bool]
    refine bcase_of (fun h4 => ?_) (fun h4 => ?_)
    · have h4 := of_decide_eq_true h4
      rw [reads_add, wrap_n1 _ (by omega), reads_add, wrap_n1 _ (by omega)]
      refine ⟨l.length - (i + 1), by omega, rfl, i + 1, by omega, rfl, rfl, ?_⟩
      rw [List.take_succ_eq_append_getElem hlt, List.count_append, h4]
      rfl
    · have h4 := of_decide_eq_false h4
      rw [reads_add, wrap_n1 _ (by omega)]
      refine ⟨l.length - (i + 1), by omega, rfl, i + 1, by omega, rfl, rfl, ?_⟩
      rw [List.take_succ_eq_append_getElem hlt, List.count_append, List.count_singleton]
      simp [h4]
  · have e : i = l.length := by have := of_decide_eq_false hc; omega
    subst e
    rw [List.take_length]
    exact hk
theorem branches_of {k : Nat} {s : W4} {mn mx : Int} {g m c : Nat} {q : Option Addr} (hk : ∀ h', Fm h.size h.size h h' → R (.int .i64 ((if k = 5 then m else 1 : Nat))) h') : CallsH Tryz.prog 19 #[.agg (reL k s mn mx g (.slice q m c)).toArray] h R E := by
  refine C19 ?_
  unfold S19
  refine new_rule fun h1 a1 => ?_
  have f1 : Fm h.size h.size h h1 := Fm.al a1 (Nat.le_refl _)
  have b1 : h1[h.size]? = some (.cells (reL k s mn mx g (.slice q m c)).toArray 36 (0, 0)) := a1.at_
  have key := hk h1 f1
  rw [Tryz.fa36_0, addr_add, pLoad_one (v := .int .i64 k) Tryz.agg3 (by rw [hcell_of b1]; rfl), reads_eq, show (5 : Int) = ((5 : Nat) : Int) from rfl, dec_nn_eq, boolV_bool]
  refine bcase_of (fun hc => ?_) (fun hc => ?_)
  · rw [if_pos (of_decide_eq_true hc)] at key
    rw [Tryz.fa36_5, addr_add, Nat.zero_add, pLoad_one (v := .slice q m c) Tryz.agg34 (by rw [hcell_of b1]; rfl), reads_rlen Tryz.underlying34]
    exact key
  · rw [if_neg (of_decide_eq_false hc)] at key
    exact key
end Rt
end Go.Proofs

set_option maxRecDepth 100000
namespace Go.Proofs
open Go.Vcg
namespace Rt
theorem eqFault (a b c a' b' c' : Int) (w : World) : (Op.equalIn 10000 42 (.agg #[.int .i64 a, .int .i64 b, .int .i64 c]) (.agg #[.int .i64 a', .int .i64 b', .int .i64 c'])).run Tryz.prog w = .ok (a == a' && (b == b' && c == c')) w := by
  have h3 : ∀ (x y : Int) (w : World), (Op.equalIn 9999 3 (.int .i64 x) (.int .i64 y)).run Tryz.prog w = .ok (x == y) w := fun x y w => run_equalIn_int (P := Tryz.prog) w 9998 3 .i64 .i64 x y Tryz.underlying3
  have q0 : ∀ (x0 x1 x2 : Value) (w : World), (part 3 #[x0, x1, x2] 0).run Tryz.prog w = .ok x0 w := fun _ _ _ _ => by kernel_rfl
  have q1 : ∀ (x0 x1 x2 : Value) (w : World), (part 3 #[x0, x1, x2] 1).run Tryz.prog w = .ok x1 w := fun _ _ _ _ => by kernel_rfl
  have q2 : ∀ (x0 x1 x2 : Value) (w : World), (part 3 #[x0, x1, x2] 2).run Tryz.prog w = .ok x2 w := fun _ _ _ _ => by kernel_rfl
  have e : (Tryz.prog.fieldsOf 42).toList.map (fun f => (f.type, f.offset, f.name == "_")) = [(3, 0, false), (3, 1, false), (3, 2, false)] := by kernel_rfl
  rw [run_equalIn_struct w 9999 42 _ _ (by kernel_rfl) (by kernel_rfl)]
  generalize (Tryz.prog.fieldsOf 42).toList = fs at e
  match fs, e with
  | [], e => simp at e
  | [_], e => simp at e
  | [_, _], e => simp at e
  | _ :: _ :: _ :: _ :: _, e => simp at e
  | [f0, f1, f2], e =>
    simp at e
    obtain ⟨⟨a1, a2, a3⟩, ⟨b1, b2, b3⟩, c1, c2, c3⟩ := e
    simp [Op.eqFields, a1, a2, a3, b1, b2, b3, c1, c2, c3, h3, q0, q1, q2]
    by_cases e1 : a = a' <;> by_cases e2 : b = b' <;> by_cases e3 : c = c' <;> simp [e1, e2, e3]
theorem guard42 (op : BinOp) (c : Bool) (xs ys : Array Value) (w : World) : (guardS op 42 c (.agg xs) (.agg ys)).run Tryz.prog w = .ok () w := by
  have e : Tryz.prog.eqGuardType Tryz.prog.depth 42 = false := by kernel_rfl
  cases op <;> simp [guardS, program, Sem.run, e]
theorem reads_eqFault {c : Bool} {h : Heap} {k : Value → Prop} {x y z : Int} : Reads Tryz.prog (binS .eql 42 c (.agg #[.int .i64 x, .int .i64 y, .int .i64 z]) (.agg #[.int .i64 x, .int .i64 y, .int .i64 z])) h k = k (.bool true) := reads_pure fun w => by
  simp only [binS, Sem.run_bind, guard42, Result.andThen_ok]
  rw [run_eql_struct, eqFault]
  simp
theorem fld42_1 {h : Heap} {k : Value → Prop} {a c : Value} {K : IntKind} {n : Int} : Reads Tryz.prog (Instr.field 42 (.agg #[a, .int K n, c]) 1) h k = k (.int K n) := reads_pure fun w => show (Instr.field 42 (.agg #[a, .int K n, c]) 1).run Tryz.prog w = .ok (.int K n) w from by kernel_rfl
end Rt
end Go.Proofs
