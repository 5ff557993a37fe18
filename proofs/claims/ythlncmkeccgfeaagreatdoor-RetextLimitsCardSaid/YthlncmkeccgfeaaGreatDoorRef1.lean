/- A part of the proofs over this seat: Ref1. -/
import Derived.Test.YthlncmkeccgfeaaGreatDoorLaw6
import Derived.Laws.OwnMore
import Derived.Laws.StructEq
import Derived.Test.YthlncmkeccgfeaaGreatDoorTxt3
set_option linter.unusedVariables false
set_option linter.unusedSimpArgs false
set_option maxRecDepth 100000
namespace Go.Proofs
open Go.Vcg
namespace Rt
attribute [local congr] Reads.congr ReadsS.congr pLoad.congr pLoadS.congr pStore.congr Runs.congr CallsH.congr bcase.congr boolV.congr Stable.congr pAlloc.congr
variable {S : Glb} {n : Nat} {h : Heap} {r : Nat} {bv : Value} {l : List UInt8} {p : Nat} {ext : Bool} {op gr : Nat} {R : Value → Heap → Prop} {E : List PanicEntry → Heap → Prop}

/-! ### Slices of bytes put together -/
theorem runs_empty {K : Value → Heap → Prop} (hk : ∀ v h', ByteRow h' h.size v [] → Al h h' (.cells #[] 5 (0, 0)) → K v h') : Runs Tryz.prog (vS (Instr.buildSlice 29 0 #[])) h K E := by
  obtain ⟨i, h1, h2, h3, h4⟩ := Tryz.info5
  intro w hw
  subst hw
  have hr : (Instr.buildSlice 29 0 #[]).run Tryz.prog w = .ok (.slice (some ⟨w.heap.size, 0, none⟩) 0 0) (w.alloc (.cells #[] 5)) := by
    simp [Instr.buildSlice, Go.underlying, program, Sem.run, Tryz.underlying29, sizeOf, typeInfo, h1, Instr.fill, newRow, newObj]
    have e : Array.map (fun (x : Nat) => (default : Value)) (Array.range 0) = #[] := by simp [Array.range]
    rw [e]
  simp only [vS, Sem.run_bind, hr, Result.andThen_ok, Sem.run_pure, uponH]
  refine ⟨⟨rfl, rfl, rfl⟩, hk _ _ ⟨rfl, .inr ⟨w.heap.size, 0, #[], rfl, Nat.le_refl _, (Al.push ..).at_, Nat.le_refl _, by simp [maxLen], rfl, rfl⟩⟩ (Al.push ..)⟩
theorem ByteRow.al {v : Value} {o : Obj} {h' : Heap} (b : ByteRow h n v l) (a : Al h h' o) : ByteRow h' n v l := by
  obtain ⟨hl, ho⟩ := b
  refine ⟨hl, ho.imp id ?_⟩
  rintro ⟨g, cap, cur, e1, e2, e3, e4⟩
  exact ⟨g, cap, cur, e1, e2, (a.old g (at_lt e3)).trans e3, e4⟩
theorem push_bytes {v u : Value} {m : List UInt8} {K : Value → Heap → Prop} (b : ByteRow h n v l) (hu : IsBytes h u m) (hn : n ≤ h.size) (hlen : l.length + m.length ≤ 1000000000) (hK : ∀ v' h', ByteRow h' n v' (l ++ m) → (∀ r, Fm n r h h') → K v' h') :
    Runs Tryz.prog (builtin .append #[29, 29] 29 #[false, false] #[v, u]) h K E := by
  rcases hu with ⟨rfl, rfl⟩ | ⟨bl, o, c, rfl, hc, hat0⟩
  · obtain ⟨i, h1, h2, h3, h4⟩ := Tryz.info5
    intro w hw
    subst hw
    have hr := run_append_owned_none (P := Tryz.prog) (w := w) n 29 29 5 i 1 Tryz.underlying29 h1 v l.length (l.map bval) b
    simp only [builtin, Sem.run_bind, hr, Result.andThen_ok, Sem.run_pure, uponH]
    refine ⟨⟨rfl, rfl, rfl⟩, hK v w.heap (by simpa using b) fun r => Fm.refl ..⟩
  · have hb := b
    refine runs_append' (size := 1) (bytes := 1) (news := m.map bval) Tryz.info5 Tryz.underlying29 rfl (by omega) b (by simp) ?_ ?_ (by simp [maxLen]; omega) (by omega) hn fun v' h2 ho' hg hnil hat => ?_
    · intro j x hj
      obtain ⟨hjl, hx⟩ := List.getElem?_eq_some_iff.1 hj
      rw [addr_add]
      have := hat0 j (by simpa using hjl)
      simp only [List.getElem_map] at hx
      rw [← hx]
      exact this
    · intro x hx
      obtain ⟨y, _, rfl⟩ := List.mem_map.1 hx
      rfl
    · refine hK v' h2 ?_ fun r => ?_
      · unfold ByteRow
        simpa using ho'
      · refine ⟨hg.size, fun k hk _ => ?_⟩
        refine hg.block k (by omega) fun e => ?_
        rcases hb.2 with ⟨rfl, _⟩ | ⟨g, cap, cur, rfl, e2, _⟩
        · cases e
        · have : k = g := by simpa [Value.ownBlock] using e
          omega
/-- how many bytes are an opening sign -/
theorem groups_of {l : List UInt8} (hb : IsBytes h bv l) (hl : l.length ≤ 65536) (hk : R (.int .i64 (l.count 40)) h) : CallsH Tryz.prog 18 #[bv] h R E := by
  refine C18 ?_
  unfold S18
  rw [reads_blen hb Tryz.underlying29]
  refine Loop2.fuel (fun k v a h' => h' = h ∧ ∃ i : Nat, i ≤ l.length ∧ k = l.length - i ∧ a = .int .i64 i ∧ v = .int .i64 ((l.take i).count 40)) (n := l.length) ⟨rfl, 0, by omega, by simp, rfl, rfl⟩ fun k v a h1 hi => ?_
  obtain ⟨rfl, i, hi, rfl, rfl, rfl⟩ := hi
  rw [reads_lt, dec_nn_lt, boolV_bool]
  refine bcase_of (fun hc => ?_) (fun hc => ?_)
  · have hlt : i < l.length := of_decide_eq_true hc
    have hcl : (l.take i).count 40 ≤ i := Nat.le_trans List.count_le_length (by simp; omega)
    refine idx_load hb Tryz.underlying29 Tryz.size5 Tryz.agg5 hlt ?_
    have e8 : decide ((l[i].toNat : Int) = 40) = decide (l[i] = 40) := dec_u8_eq l[i] 40
    rw [reads_eq, e8, boolV_bool]
    refine bcase_of (fun h4 => ?_) (fun h4 => ?_)
    · have h4 := of_decide_eq_true h4
      rw [reads_add, wrap_n1 _ (by omega), reads_add, wrap_n1 _ (by omega)]
      refine ⟨l.length - (i + 1), by omega, rfl, i + 1, by omega, rfl, rfl, ?_⟩
      rw [List.take_succ_eq_append_getElem hlt, List.count_append, h4]
      rfl
    · have h4 := of_decide_eq_false h4
      rw [reads_add, wrap_n1 _ (by omega)]
      refine ⟨l.length - (i + 1), by omega, rfl, i + 1, by omega, rfl, rfl, ?_⟩
      rw [List.take_succ_eq_append_getElem hlt, List.count_append, List.count_singleton]
      simp [h4]
  · have e : i = l.length := by have := of_decide_eq_false hc; omega
    subst e
    rw [List.take_length]
    exact hk
theorem branches_of {k : Nat} {s : W4} {mn mx : Int} {g m c : Nat} {q : Option Addr} (hk : ∀ h', Fm h.size h.size h h' → R (.int .i64 ((if k = 5 then m else 1 : Nat))) h') : CallsH Tryz.prog 19 #[.agg (reL k s mn mx g (.slice q m c)).toArray] h R E := by
  refine C19 ?_
  unfold S19
  refine new_rule fun h1 a1 => ?_
  have f1 : Fm h.size h.size h h1 := Fm.al a1 (Nat.le_refl _)
  have b1 : h1[h.size]? = some (.cells (reL k s mn mx g (.slice q m c)).toArray 36 (0, 0)) := a1.at_
  have key := hk h1 f1
  rw [Tryz.fa36_0, addr_add, pLoad_one (v := .int .i64 k) Tryz.agg3 (by rw [hcell_of b1]; rfl), reads_eq, show (5 : Int) = ((5 : Nat) : Int) from rfl, dec_nn_eq, boolV_bool]
  refine bcase_of (fun hc => ?_) (fun hc => ?_)
  · rw [if_pos (of_decide_eq_true hc)] at key
    rw [Tryz.fa36_5, addr_add, Nat.zero_add, pLoad_one (v := .slice q m c) Tryz.agg34 (by rw [hcell_of b1]; rfl), reads_rlen Tryz.underlying34]
    exact key
  · rw [if_neg (of_decide_eq_false hc)] at key
    exact key
end Rt
end Go.Proofs

set_option maxRecDepth 100000
namespace Go.Proofs
open Go.Vcg
namespace Rt
theorem eqFault (a b c a' b' c' : Int) (w : World) : (Op.equalIn 10000 42 (.agg #[.int .i64 a, .int .i64 b, .int .i64 c]) (.agg #[.int .i64 a', .int .i64 b', .int .i64 c'])).run Tryz.prog w = .ok (a == a' && (b == b' && c == c')) w := by
  have h3 : ∀ (x y : Int) (w : World), (Op.equalIn 9999 3 (.int .i64 x) (.int .i64 y)).run Tryz.prog w = .ok (x == y) w := fun x y w => run_equalIn_int (P := Tryz.prog) w 9998 3 .i64 .i64 x y Tryz.underlying3
  have q0 : ∀ (x0 x1 x2 : Value) (w : World), (part 3 #[x0, x1, x2] 0).run Tryz.prog w = .ok x0 w := fun _ _ _ _ => by kernel_rfl
  have q1 : ∀ (x0 x1 x2 : Value) (w : World), (part 3 #[x0, x1, x2] 1).run Tryz.prog w = .ok x1 w := fun _ _ _ _ => by kernel_rfl
  have q2 : ∀ (x0 x1 x2 : Value) (w : World), (part 3 #[x0, x1, x2] 2).run Tryz.prog w = .ok x2 w := fun _ _ _ _ => by kernel_rfl
  have e : (Tryz.prog.fieldsOf 42).toList.map (fun f => (f.type, f.offset, f.name == "_")) = [(3, 0, false), (3, 1, false), (3, 2, false)] := by kernel_rfl
  rw [run_equalIn_struct w 9999 42 _ _ (by kernel_rfl) (by kernel_rfl)]
  generalize (Tryz.prog.fieldsOf 42).toList = fs at e
  match fs, e with
  | [], e => simp at e
  | [_], e => simp at e
  | [_, _], e => simp at e
  | _ :: _ :: _ :: _ :: _, e => simp at e
  | [f0, f1, f2], e =>
    simp at e
    obtain ⟨⟨a1, a2, a3⟩, ⟨b1, b2, b3⟩, c1, c2, c3⟩ := e
    simp [Op.eqFields, a1, a2, a3, b1, b2, b3, c1, c2, c3, h3, q0, q1, q2]
    by_cases e1 : a = a' <;> by_cases e2 : b = b' <;> by_cases e3 : c = c' <;> simp [e1, e2, e3]
theorem guard42 (op : BinOp) (c : Bool) (xs ys : Array Value) (w : World) : (guardS op 42 c (.agg xs) (.agg ys)).run Tryz.prog w = .ok () w := by
  have e : Tryz.prog.eqGuardType Tryz.prog.depth 42 = false := by kernel_rfl
  cases op <;> simp [guardS, program, Sem.run, e]
theorem reads_eqFault {c : Bool} {h : Heap} {k : Value → Prop} {x y z : Int} : Reads Tryz.prog (binS .eql 42 c (.agg #[.int .i64 x, .int .i64 y, .int .i64 z]) (.agg #[.int .i64 x, .int .i64 y, .int .i64 z])) h k = k (.bool true) := reads_pure fun w => by
  simp only [binS, Sem.run_bind, guard42, Result.andThen_ok]
  rw [run_eql_struct, eqFault]
  simp
theorem fld42_1 {h : Heap} {k : Value → Prop} {a c : Value} {K : IntKind} {n : Int} : Reads Tryz.prog (Instr.field 42 (.agg #[a, .int K n, c]) 1) h k = k (.int K n) := reads_pure fun w => show (Instr.field 42 (.agg #[a, .int K n, c]) 1).run Tryz.prog w = .ok (.int K n) w from by kernel_rfl
end Rt
end Go.Proofs

set_option maxRecDepth 100000
namespace Go.Proofs
open Go.Vcg
namespace Rt

/-! ### A text with a bar behind it: how the front is read -/
variable {a b : List UInt8} {p : Nat} {op gr : Nat}
theorem isM_one {l : List UInt8} {x : UInt8} : isM l [x] p = isB l p x := by
  unfold isM isB
  rw [← List.head?_drop]
  cases l.drop p with
  | nil => rfl
  | cons c r =>
    simp [List.isPrefixOf, eq_comm]
    exact (decide_eq_decide.2 Iff.rfl : decide (x = c) = decide (x = c)) ▸ rfl
theorem get_pre (h : p < a.length) : (a ++ 124 :: b)[p]? = a[p]? := List.getElem?_append_left h
theorem get_bar : (a ++ 124 :: b)[a.length]? = some 124 := by simp
theorem isB_pre {x : UInt8} (hp : p ≤ a.length) (hx : x ≠ 124) : isB (a ++ 124 :: b) p x = isB a p x := by
  unfold isB
  rcases Nat.lt_or_eq_of_le hp with h | h
  · rw [get_pre h]
  · subst h
    rw [get_bar, List.getElem?_eq_none (Nat.le_refl _)]
    simp [Ne.symm hx]
theorem isM_pre {x : UInt8} (hp : p ≤ a.length) (hx : x ≠ 124) : isM (a ++ 124 :: b) [x] p = isM a [x] p := by rw [isM_one, isM_one, isB_pre hp hx]
theorem isM_pre' {x : UInt8} (hp : p < a.length) : isM (a ++ 124 :: b) [x] p = isM a [x] p := by
  rw [isM_one, isM_one]
  unfold isB
  rw [get_pre hp]
theorem isM_end {x : UInt8} : isM a [x] a.length = false := by
  rw [isM_one]
  unfold isB
  rw [List.getElem?_eq_none (Nat.le_refl _)]
  simp
theorem isM_lt {x : UInt8} (h : isM a [x] p = true) : p < a.length := isB_lt (by rwa [isM_one] at h)
theorem drop_pre (hp : p ≤ a.length) : (a ++ 124 :: b).drop p = a.drop p ++ 124 :: b := List.drop_append_of_le_length hp
theorem dlen_pre : ∀ (x : List UInt8), dlen (x ++ 124 :: b) = dlen x
  | [] => by
    simp only [List.nil_append, dlen]
    rfl
  | c :: x => by simp only [List.cons_append, dlen, dlen_pre x]
theorem dval_pre {x : List UInt8} {k : Nat} (hk : k ≤ x.length) : dval (x ++ 124 :: b) k = dval x k := by
  unfold dval
  rw [List.take_append_of_le_length hk]
theorem numR_pre (hp : p ≤ a.length) : numR (a ++ 124 :: b) p = numR a p := by
  unfold numR
  rw [drop_pre hp, dlen_pre, dval_pre (dlen_le _)]
theorem secondR_pre {mn : Int} (hp : p ≤ a.length) : secondR (a ++ 124 :: b) [125] mn p = secondR a [125] mn p := by
  unfold secondR
  rw [isM_pre hp (by decide)]
  by_cases hc : 0 ≤ mn ∧ isM a [44] p = true
  · have := isM_lt hc.2
    rw [if_pos hc, if_pos hc, isM_pre (by omega) (by decide), numR_pre (by omega)]
  · rw [if_neg hc, if_neg hc]
theorem intM_pre {t : T} {frm : Nat} (hp : p ≤ a.length) : intM (a ++ 124 :: b) t frm [125] p = intM a t frm [125] p := by
  have h1 := numR_le hp
  unfold intM
  rw [numR_pre hp, secondR_pre h1.2]
  cases hs : secondR a [125] (numR a p).1 (numR a p).2 with
  | none => rfl
  | some x =>
    have h2 := secondR_le (by simp) h1.2 hs
    simp only
    rw [isM_pre h2.2 (by decide)]
theorem timesM_pre (hp : p ≤ a.length) : timesM (a ++ 124 :: b) p = timesM a p := by
  unfold timesM
  rw [isM_pre hp (by decide), isM_pre hp (by decide), isM_pre hp (by decide), isM_pre hp (by decide)]
theorem intM_le {l : List UInt8} {t : T} {frm : Nat} {shut : List UInt8} {x : T × Nat} (hs : shut ≠ []) (hp : p ≤ l.length) (h : intM l t frm shut p = .ok x) : p ≤ x.2 ∧ x.2 ≤ l.length ∧ ∃ mn mx, x.1 = repM t mn mx := by
  have h1 := numR_le hp
  unfold intM at h
  split at h
  · cases h
  · rename_i y hy
    have h2 := secondR_le hs h1.2 hy
    split at h
    · cases h
    · rename_i hc
      simp only [not_or, not_and, Bool.not_eq_false] at hc
      have h3 := isM_le h2.2 hc.2.1
      cases h
      exact ⟨by simp only; omega, h3, _, _, rfl⟩
theorem timesLM_pre : ∀ (k k' : Nat) {e : T} {p : Nat}, p ≤ a.length → a.length < k + p → a.length < k' + p → timesLM k' (a ++ 124 :: b) e p = timesLM k a e p
  | 0, _, e, p, hp, hk, _ => by omega
  | k + 1, 0, e, p, hp, _, hk => by omega
  | k + 1, k' + 1, e, p, hp, hk, hk' => by
    unfold timesLM
    rw [isM_pre hp (by decide), isM_pre hp (by decide), isM_pre hp (by decide), isM_pre hp (by decide)]
    by_cases h1 : isM a [42] p = true
    · have := isM_lt h1
      rw [if_pos h1, if_pos h1]
      exact timesLM_pre k k' (by omega) (by omega) (by omega)
    rw [if_neg h1, if_neg h1]
    by_cases h2 : isM a [43] p = true
    · have := isM_lt h2
      rw [if_pos h2, if_pos h2]
      exact timesLM_pre k k' (by omega) (by omega) (by omega)
    rw [if_neg h2, if_neg h2]
    by_cases h3 : isM a [63] p = true
    · have := isM_lt h3
      rw [if_pos h3, if_pos h3]
      exact timesLM_pre k k' (by omega) (by omega) (by omega)
    rw [if_neg h3, if_neg h3]
    by_cases h4 : isM a [123] p = true
    · have hlt := isM_lt h4
      rw [if_pos h4, if_pos h4, intM_pre (by omega)]
      cases hi : intM a e p [125] (p + 1) with
      | out => rfl
      | bad c q => rfl
      | ok x =>
        have := intM_le (by simp) (by omega) hi
        exact timesLM_pre k k' this.2.1 (by omega) (by omega)
    · rw [if_neg h4, if_neg h4]
theorem anchorM_pre {kind : Nat} (hp : p ≤ a.length) : anchorM (a ++ 124 :: b) kind p = anchorM a kind p := by
  unfold anchorM
  rw [timesM_pre hp]
theorem escM_pre {signs : List UInt8} (hp : p + 1 < a.length) : escM (a ++ 124 :: b) signs p = escM a signs p := by
  unfold escM
  rw [get_pre hp]

/-! ### Brackets -/
theorem pre2 {c : UInt8} {l : List UInt8} : List.isPrefixOf [58, 93] (c :: (l ++ 124 :: b)) = List.isPrefixOf [58, 93] (c :: l) := by
  cases l with
  | nil => simp [List.isPrefixOf]
  | cons d r => simp [List.isPrefixOf]
theorem idx_pre : ∀ (s : List UInt8), (0 ≤ Go.Lib.index s [58, 93] → Go.Lib.index (s ++ 124 :: b) [58, 93] = Go.Lib.index s [58, 93]) ∧
    (Go.Lib.index s [58, 93] < 0 → Go.Lib.index (s ++ 124 :: b) [58, 93] < 0 ∨ (s.length : Int) + 1 ≤ Go.Lib.index (s ++ 124 :: b) [58, 93])
  | [] => by
    refine ⟨fun h => absurd h (by decide), fun _ => ?_⟩
    simp only [List.nil_append]
    unfold Go.Lib.index
    rw [if_neg (by simp [List.isPrefixOf])]
    have := Go.Lib.index_ge b [58, 93]
    by_cases hb : Go.Lib.index b [58, 93] = -1
    · left; simp [hb]
    · right; simp [hb]; omega
  | c :: s => by
    have ih := idx_pre s
    have h1 := Go.Lib.index_ge s [58, 93]
    have h2 := Go.Lib.index_ge (s ++ 124 :: b) [58, 93]
    simp only [List.cons_append]
    unfold Go.Lib.index
    rw [pre2]
    by_cases hp : List.isPrefixOf [58, 93] (c :: s) = true
    · rw [if_pos hp, if_pos hp]
      exact ⟨fun _ => rfl, fun h => absurd h (by decide)⟩
    · rw [if_neg hp, if_neg hp]
      by_cases hs : Go.Lib.index s [58, 93] = -1
      · rw [if_pos (by simp [hs])]
        refine ⟨fun h => absurd h (by decide), fun _ => ?_⟩
        rcases ih.2 (by omega) with h | h
        · left
          rw [if_pos (by simp; omega)]
          decide
        · right
          rw [if_neg (by simp; omega)]
          simp only [List.length_cons]
          omega
      · rw [if_neg (by simp [hs])]
        have := ih.1 (by omega)
        rw [this, if_neg (by simp [hs])]
        exact ⟨fun _ => rfl, fun h => by omega⟩
theorem classM_bar {l : List UInt8} (h : (124 : UInt8) ∈ l) : classM l = none := by
  unfold classM
  have ne : ∀ m : List UInt8, (124 : UInt8) ∉ m → l ≠ m := fun m hm e => hm (e ▸ h)
  rw [if_neg (ne _ (by decide)), if_neg (ne _ (by decide)), if_neg (ne _ (by decide)), if_neg (ne _ (by decide)), if_neg (ne _ (by decide)), if_neg (ne _ (by decide)),
    if_neg (ne _ (by decide)), if_neg (ne _ (by decide)), if_neg (ne _ (by decide)), if_neg (ne _ (by decide)), if_neg (ne _ (by decide)), if_neg (ne _ (by decide))]
theorem itemS_pre (hp : p < a.length) : itemS 4 (a ++ 124 :: b) p = itemS 4 a p := by
  unfold itemS
  rw [isB_pre (by omega) (by decide), isB_pre (by omega) (by decide), isB_pre (by omega) (by decide), isB_pre (by omega) (by decide), isB_pre (by omega) (by decide), get_pre hp]
  by_cases h1 : (isB a p 91 && (isB a (p + 1) 46 || isB a (p + 1) 61)) = true
  · rw [if_pos h1, if_pos h1]
  rw [if_neg h1, if_neg h1]
  by_cases h2 : (isB a p 91 && isB a (p + 1) 58) = true
  · rw [if_pos h2, if_pos h2]
    have h3 : p + 1 < a.length := by
      simp only [Bool.and_eq_true] at h2
      exact isB_lt h2.2
    rw [drop_pre (by omega)]
    have hi := idx_pre (b := b) (a.drop (p + 2))
    have bar : (124 : UInt8) ∈ (Go.Lib.cut (a.drop (p + 2) ++ 124 :: b) [58, 93]).1 → ∀ (r : Res ItemR), Go.Lib.index (a.drop (p + 2)) [58, 93] < 0 →
        (match classM (Go.Lib.cut (a.drop (p + 2) ++ 124 :: b) [58, 93]).1 with
          | some s => if (Go.Lib.cut (a.drop (p + 2) ++ 124 :: b) [58, 93]).2.2 then .ok (false, 0, s, p + (Go.Lib.cut (a.drop (p + 2) ++ 124 :: b) [58, 93]).1.length + 4) else .bad 8 p
          | none => .bad 8 p : Res ItemR) =
        (match classM (Go.Lib.cut (a.drop (p + 2)) [58, 93]).1 with
          | some s => if (Go.Lib.cut (a.drop (p + 2)) [58, 93]).2.2 then .ok (false, 0, s, p + (Go.Lib.cut (a.drop (p + 2)) [58, 93]).1.length + 4) else .bad 8 p
          | none => .bad 8 p : Res ItemR) := by
      intro hm _ hn
      rw [classM_bar hm]
      have : (Go.Lib.cut (a.drop (p + 2)) [58, 93]).2.2 = false := by
        unfold Go.Lib.cut
        rw [if_neg (by omega)]
      rw [this]
      cases classM (Go.Lib.cut (a.drop (p + 2)) [58, 93]).1 <;> rfl
    by_cases h0 : 0 ≤ Go.Lib.index (a.drop (p + 2)) [58, 93]
    · have e := hi.1 h0
      have room := Go.Lib.index_room _ _ h0
      have e1 : (Go.Lib.cut (a.drop (p + 2) ++ 124 :: b) [58, 93]).1 = (Go.Lib.cut (a.drop (p + 2)) [58, 93]).1 := by
        unfold Go.Lib.cut
        rw [e, if_pos h0, if_pos h0]
        simp only [List.length_cons, List.length_nil] at room
        exact List.take_append_of_le_length (by omega)
      have e2 : (Go.Lib.cut (a.drop (p + 2) ++ 124 :: b) [58, 93]).2.2 = (Go.Lib.cut (a.drop (p + 2)) [58, 93]).2.2 := by
        unfold Go.Lib.cut
        rw [e, if_pos h0, if_pos h0]
      rw [e1, e2]
    · refine bar ?_ .out (by omega) 
      unfold Go.Lib.cut
      rcases hi.2 (by omega) with h | h
      · rw [if_neg (by omega)]
        simp
      · rw [if_pos (by omega)]
        simp only
        generalize Go.Lib.index (a.drop (p + 2) ++ 124 :: b) [58, 93] = j at h
        obtain ⟨m, hm⟩ : ∃ m, j.toNat = (a.drop (p + 2)).length + (m + 1) := ⟨j.toNat - (a.drop (p + 2)).length - 1, by omega⟩
        rw [hm, List.take_length_add_append]
        simp
  · rw [if_neg h2, if_neg h2]
    simp only [show decide ((4 : Nat) = 2) = false from rfl, Bool.and_false, Bool.false_eq_true, if_false]
theorem rangedS_pre {frm : Nat} {x : ItemR} (hq : x.2.2.2 ≤ a.length) :
    (x.2.2.2 + 1 = a.length ∧ isB a x.2.2.2 45 = true ∧ rangedS 4 a frm x = .ok (x.2.2.1, x.2.2.2)) ∨ rangedS 4 (a ++ 124 :: b) frm x = rangedS 4 a frm x := by
  unfold rangedS
  rw [isB_pre hq (by decide)]
  by_cases h1 : x.1 = true
  · by_cases h2 : isB a x.2.2.2 45 = true
    · have hlt := isB_lt h2
      rw [isB_pre (by omega) (by decide)]
      by_cases h3 : isB a (x.2.2.2 + 1) 93 = true
      · right; simp [h1, h2, h3]
      · by_cases h4 : x.2.2.2 + 1 = a.length
        · left
          exact ⟨h4, h2, by rw [if_pos (by simp; right; omega)]⟩
        · right
          have h5 : ¬ a.length ≤ x.2.2.2 + 1 := by omega
          have h6 : ¬ (a ++ 124 :: b).length ≤ x.2.2.2 + 1 := by simp; omega
          rw [itemS_pre (by omega)]
          have e1 : (!x.1 || !isB a x.2.2.2 45 || isB a (x.2.2.2 + 1) 93 || decide (a.length ≤ x.2.2.2 + 1)) = false := by rw [h1, h2]; simp [h3, h5]
          have e2 : (!x.1 || !isB a x.2.2.2 45 || isB a (x.2.2.2 + 1) 93 || decide ((a ++ 124 :: b).length ≤ x.2.2.2 + 1)) = false := by rw [h1, h2]; simp only [h3, h6]; rfl
          rw [e1, e2]
    · right; simp [h2]
  · right; simp [h1]
end Rt
end Go.Proofs

set_option maxRecDepth 100000
namespace Go.Proofs
open Go.Vcg
namespace Rt
attribute [local congr] Reads.congr ReadsS.congr pLoad.congr pLoadS.congr pStore.congr Runs.congr CallsH.congr bcase.congr boolV.congr Stable.congr pAlloc.congr
variable {S : Glb} {n : Nat} {h : Heap} {r : Nat} {bv : Value} {l : List UInt8} {p : Nat} {R : Value → Heap → Prop} {E : List PanicEntry → Heap → Prop}

/-! ### The reference's small functions -/
theorem rfault_spec {code pos lang : Nat} (hk : ∀ h', Fm h.size h.size h h' → R (faultV code pos lang) h') : CallsH Tryz.prog 34 #[.int .i64 code, .int .i64 pos, .int .i64 lang] h R E := by
  refine C34 ?_
  unfold S34
  refine alloc_rule Tryz.zero42 fun h1 a1 => ?_
  rw [Tryz.bd42_0_1_2]
  refine ret_full a1.at_ (xs := #[.int .i64 code, .int .i64 pos, .int .i64 lang]) Tryz.size42 Tryz.agg42 rfl flat3 fun h2 u2 => ?_
  exact hk h2 ((Fm.al a1 (Nat.le_refl _)).trans (Fm.upd u2 (.inl (Nat.le_refl _))))
theorem rnot_spec {s : W4} (hs : s.ok) (hk : ∀ h', Fm h.size h.size h h' → R (.agg s.not.vals.toArray) h') : CallsH Tryz.prog 46 #[.agg s.vals.toArray] h R E := by
  refine C46 ?_
  unfold S46
  refine new_rule fun h1 a1 => alloc_rule Tryz.zero33 fun h2 a2 => ?_
  have s1 := a1.size
  have s2 := a2.size
  have f2 : Fm h.size h.size h h2 := (Fm.al a1 (Nat.le_refl _)).trans (Fm.al a2 (by omega))
  refine Loop1.fuel (fun k a h' => ∃ i : Nat, a = .int .i64 i ∧ i ≤ 4 ∧ k = 4 - i ∧ Fm h.size h.size h h' ∧ h'[h.size]? = some (.cells (s.notK i).vals.toArray 33 (0, 0)) ∧ ∃ c2, h'[h1.size]? = some (.cells c2 33 (0, 0)) ∧ c2.size = 4)
    (n := 4) ⟨0, rfl, by omega, by omega, f2, ?_, _, a2.at_, rfl⟩ fun k a h3 hi => ?_
  · rw [a2.old _ (by omega)]
    exact a1.at_
  obtain ⟨i, rfl, hi, rfl, f3, hb, c2, hb2, hc2⟩ := hi
  rw [reads_lt, boolV_bool]
  refine bcase_of (fun hc => ?_) (fun hc => ?_)
  · have hlt : i < 4 := by have := of_decide_eq_true hc; omega
    rw [reads_idxArr Tryz.underlying33 Tryz.size31 hlt, addr_add, Nat.zero_add, Nat.mul_one]
    have fin : ∀ x : Nat, x < 2 ^ 64 → (s.notK i).vals.toArray[i]? = some (.int .u64 x) → (s.notK (i + 1)).vals.toArray = (s.notK i).vals.toArray.setIfInBounds i (.int .u64 (nt x : Nat)) →
        pLoad Tryz.prog 31 (.pointer (some ⟨h.size, i, none⟩)) h3 fun t10 => Reads Tryz.prog (Op.unary .xor t10) h3 fun t11 => Reads Tryz.prog (Instr.indexAt 33 (.pointer (some ⟨h.size, 0, none⟩)) (.int .i64 i)) h3 fun t12 => pStore Tryz.prog 31 t12 t11 h3 fun h4 =>
          Reads Tryz.prog (binS .add 3 true (.int .i64 i) (.int .i64 1)) h4 fun t13 => ∃ j, j < 4 - i ∧ ∃ i : Nat, t13 = .int .i64 i ∧ i ≤ 4 ∧ j = 4 - i ∧ Fm h.size h.size h h4 ∧ h4[h.size]? = some (.cells (s.notK i).vals.toArray 33 (0, 0)) ∧ ∃ c2, h4[h1.size]? = some (.cells c2 33 (0, 0)) ∧ c2.size = 4 := by
      intro x hx hv he
      rw [pLoad_one (v := .int .u64 x) Tryz.agg31 (by rw [hcell_of hb]; exact hv), reads_nt hx, reads_idxArr Tryz.underlying33 Tryz.size31 hlt, addr_add, Nat.zero_add, Nat.mul_one]
      refine store1 hb Tryz.size31 rfl (by simp [W4.vals]; omega) fun h4 hu => ?_
      rw [reads_add, wrap_n1 _ (by omega)]
      refine ⟨4 - (i + 1), by omega, i + 1, rfl, by omega, rfl, f3.trans (Fm.upd hu (.inl (Nat.le_refl _))), ?_, c2, (hu.other _ (by omega)).trans hb2, hc2⟩
      rw [hu.same, he]
    obtain ⟨h1', h2', h3', h4'⟩ := hs
    rcases (by omega : i = 0 ∨ i = 1 ∨ i = 2 ∨ i = 3) with e | e | e | e
    · exact fin s.a h1' (by rw [e]; rfl) (by rw [e]; rfl)
    · exact fin s.b h2' (by rw [e]; rfl) (by rw [e]; rfl)
    · exact fin s.c h3' (by rw [e]; rfl) (by rw [e]; rfl)
    · exact fin s.d h4' (by rw [e]; rfl) (by rw [e]; rfl)
  · have hil : i = 4 := by have := of_decide_eq_false hc; omega
    subst hil
    refine load_all hb Tryz.agg33 ?_
    refine ret_full hb2 Tryz.size33 Tryz.agg33 hc2 (flat_vals _) fun h4 hu => ?_
    exact hk h4 (f3.trans (Fm.upd hu (.inl (by omega))))
theorem ror_spec {s t : W4} (hs : s.ok) (ht : t.ok) (hk : ∀ h', Fm h.size h.size h h' → R (.agg (s.or t).vals.toArray) h') : CallsH Tryz.prog 93 #[.agg s.vals.toArray, .agg t.vals.toArray] h R E := by
  refine C93 ?_
  unfold S93
  refine new_rule fun h1 a1 => new_rule fun h2 a2 => alloc_rule Tryz.zero33 fun h3 a3 => ?_
  have s1 := a1.size
  have s2 := a2.size
  have s3 := a3.size
  have f3 : Fm h.size h.size h h3 := (Fm.al a1 (Nat.le_refl _)).trans ((Fm.al a2 (by omega)).trans (Fm.al a3 (by omega)))
  have q1 : h3[h.size]? = some (.cells (s.orK t 0).vals.toArray 33 (0, 0)) := (a3.old _ (by omega)).trans ((a2.old _ (by omega)).trans a1.at_)
  have q2 : h3[h1.size]? = some (.cells t.vals.toArray 33 (0, 0)) := (a3.old _ (by omega)).trans a2.at_
  refine Loop1.fuel (fun k a h' => ∃ j : Nat, a = .int .i64 j ∧ j ≤ 4 ∧ k = 4 - j ∧ Fm h.size h.size h h' ∧ h'[h.size]? = some (.cells (s.orK t j).vals.toArray 33 (0, 0)) ∧ h'[h1.size]? = some (.cells t.vals.toArray 33 (0, 0)) ∧ ∃ c2, h'[h2.size]? = some (.cells c2 33 (0, 0)) ∧ c2.size = 4)
    (n := 4) ⟨0, rfl, by omega, by omega, f3, q1, q2, _, a3.at_, rfl⟩ fun k a h6 hj => ?_
  obtain ⟨j, rfl, hj, rfl, f6, b6, e6, c2, d6, hc2⟩ := hj
  rw [reads_lt, boolV_bool]
  refine bcase_of (fun hc => ?_) (fun hc => ?_)
  · have hj4 : j < 4 := by have := of_decide_eq_true hc; omega
    rw [reads_idxArr Tryz.underlying33 Tryz.size31 hj4, addr_add, Nat.zero_add, Nat.mul_one]
    have fin : ∀ x y : Nat, x < 2 ^ 64 → y < 2 ^ 64 → (s.orK t j).vals.toArray[j]? = some (.int .u64 x) → t.vals.toArray[j]? = some (.int .u64 y) → (s.orK t (j + 1)).vals.toArray = (s.orK t j).vals.toArray.setIfInBounds j (.int .u64 (x ||| y : Nat)) →
        pLoad Tryz.prog 31 (.pointer (some ⟨h.size, j, none⟩)) h6 fun t18 => Reads Tryz.prog (Instr.indexAt 33 (.pointer (some ⟨h1.size, 0, none⟩)) (.int .i64 j)) h6 fun t20 => pLoad Tryz.prog 31 t20 h6 fun t21 => Reads Tryz.prog (binS .or 31 false t18 t21) h6 fun t22 =>
          Reads Tryz.prog (Instr.indexAt 33 (.pointer (some ⟨h.size, 0, none⟩)) (.int .i64 j)) h6 fun t23 => (pStore Tryz.prog 31 t23 t22 h6 fun h7 => True ∧ (Reads Tryz.prog (binS .add 3 true (.int .i64 j) (.int .i64 1)) h7 fun t24 =>
            ∃ q, q < 4 - j ∧ ∃ j : Nat, t24 = .int .i64 j ∧ j ≤ 4 ∧ q = 4 - j ∧ Fm h.size h.size h h7 ∧ h7[h.size]? = some (.cells (s.orK t j).vals.toArray 33 (0, 0)) ∧ h7[h1.size]? = some (.cells t.vals.toArray 33 (0, 0)) ∧ ∃ c2, h7[h2.size]? = some (.cells c2 33 (0, 0)) ∧ c2.size = 4)) ∧ True := by
      intro x y hx hy h1' h2' h3'
      rw [pLoad_one (v := .int .u64 x) Tryz.agg31 (by rw [hcell_of b6]; exact h1'), reads_idxArr Tryz.underlying33 Tryz.size31 hj4, addr_add, Nat.zero_add, Nat.mul_one, pLoad_one (v := .int .u64 y) Tryz.agg31 (by rw [hcell_of e6]; exact h2'),
        reads_or, or_val hx hy, reads_idxArr Tryz.underlying33 Tryz.size31 hj4, addr_add, Nat.zero_add, Nat.mul_one]
      refine ⟨?_, trivial⟩
      refine store1 b6 Tryz.size31 rfl (by simp [W4.vals]; omega) fun h7 u7 => ?_
      refine ⟨trivial, ?_⟩
      rw [reads_add, wrap_n1 _ (by omega)]
      refine ⟨4 - (j + 1), by omega, j + 1, rfl, by omega, rfl, f6.trans (Fm.upd u7 (.inl (by omega))), ?_, (u7.other _ (by omega)).trans e6, c2, (u7.other _ (by omega)).trans d6, hc2⟩
      rw [u7.same, h3']
    rcases (by omega : j = 0 ∨ j = 1 ∨ j = 2 ∨ j = 3) with e | e | e | e
    · exact fin s.a t.a hs.1 ht.1 (by rw [e]; rfl) (by rw [e]; rfl) (by rw [e]; rfl)
    · exact fin s.b t.b hs.2.1 ht.2.1 (by rw [e]; rfl) (by rw [e]; rfl) (by rw [e]; rfl)
    · exact fin s.c t.c hs.2.2.1 ht.2.2.1 (by rw [e]; rfl) (by rw [e]; rfl) (by rw [e]; rfl)
    · exact fin s.d t.d hs.2.2.2 ht.2.2.2 (by rw [e]; rfl) (by rw [e]; rfl) (by rw [e]; rfl)
  · have hj4 : j = 4 := by have := of_decide_eq_false hc; omega
    subst hj4
    have e : s.orK t 4 = s.or t := rfl
    rw [e] at b6
    refine load_all b6 Tryz.agg33 ?_
    refine ret_full d6 Tryz.size33 Tryz.agg33 hc2 (flat_vals _) fun h4 u4 => ?_
    exact hk h4 (f6.trans (Fm.upd u4 (.inl (by omega))))
theorem rhas_spec {s : W4} {c : UInt8} (hs : s.ok) (hk : ∀ h', Fm h.size h.size h h' → R (.bool (s.has c)) h') : CallsH Tryz.prog 102 #[.agg s.vals.toArray, .int .u8 c.toNat] h R E := by
  refine C102 ?_
  unfold S102
  refine new_rule fun h1 a1 => ?_
  have hc : c.toNat / 64 < 4 := by have := c.toNat_lt; omega
  have hm : c.toNat % 64 < 64 := Nat.mod_lt _ (by omega)
  have hn : ¬ ((c.toNat % 64 : Nat) : Int) < 0 := by omega
  rw [reads_quo (by omega : (64 : Int) ≠ 0), u8_quo, reads_idxArr Tryz.underlying33 Tryz.size31 hc, addr_add, Nat.zero_add, Nat.mul_one]
  have hv : (Value.agg s.vals.toArray).cells[c.toNat / 64]? = some (.int .u64 (s.word (c.toNat / 64) : Int)) := by
    rcases (by omega : c.toNat / 64 = 0 ∨ c.toNat / 64 = 1 ∨ c.toNat / 64 = 2 ∨ c.toNat / 64 = 3) with e | e | e | e <;> rw [e] <;> rfl
  rw [pLoad_one (v := .int .u64 (s.word (c.toNat / 64) : Int)) Tryz.agg31 (by rw [hcell_of a1.at_]; exact hv), reads_rem (by omega : (64 : Int) ≠ 0), u8_rem, reads_shr hn, shr_word hm, reads_and, reads_eq]
  have := hk h1 (Fm.al a1 (Nat.le_refl _))
  have e : decide ((IntKind.u64.wrap ((BitVec.ofInt IntKind.u64.bits ((s.word (c.toNat / 64) >>> (c.toNat % 64) : Nat) : Int) &&& BitVec.ofInt IntKind.u64.bits 1).toNat)) = (1 : Int)) = s.has c := by
    unfold W4.has
    have hlt : s.word (c.toNat / 64) >>> (c.toNat % 64) < 2 ^ 64 := Nat.lt_of_le_of_lt (Nat.shiftRight_le _ _) (W4.word_lt hs _)
    generalize s.word (c.toNat / 64) = x at *
    generalize c.toNat % 64 = m at *
    have e1 : ((BitVec.ofInt IntKind.u64.bits ((x >>> m : Nat) : Int) &&& BitVec.ofInt IntKind.u64.bits 1)).toNat = (x >>> m) % 2 := and1_64 hlt
    rw [e1, wrap_u64 (by omega), Nat.testBit_eq_decide_div_mod_eq, Nat.shiftRight_eq_div_pow]
    by_cases hh : x / 2 ^ m % 2 = 1
    · rw [hh]; simp
    · rw [decide_eq_false hh, decide_eq_false (by omega)]
  rw [e]
  exact this
theorem rin_spec {s : List UInt8} {c : UInt8} (hs : s.length ≤ 65536) (hk : R (.bool (s.contains c)) h) : CallsH Tryz.prog 90 #[.int .u8 c.toNat, str s] h R E := by
  refine C90 ?_
  unfold S90
  rw [reads_slen Tryz.underlying9]
  refine Loop1.fuel (fun k a h' => h' = h ∧ ∃ i : Nat, i ≤ s.length ∧ k = s.length - i ∧ a = .int .i64 i ∧ s.contains c = (s.drop i).contains c) (n := s.length) ⟨rfl, 0, by omega, by simp, rfl, rfl⟩ fun k a h1 hi => ?_
  obtain ⟨rfl, i, hi, rfl, rfl, hd⟩ := hi
  rw [reads_lt, dec_nn_lt, boolV_bool]
  refine bcase_of (fun hc => ?_) (fun hc => ?_)
  · have hlt : i < s.length := of_decide_eq_true hc
    rw [List.drop_eq_getElem_cons hlt, List.contains_cons] at hd
    rw [reads_sindex Tryz.underlying9 hlt, reads_eq, dec_u8_eq, boolV_bool]
    refine bcase_of (fun h2 => ?_) (fun h2 => ?_)
    · have h2 := of_decide_eq_true h2
      rw [hd, h2] at hk
      simpa using hk
    · have h2 := of_decide_eq_false h2
      rw [reads_add, wrap_n1 _ (by omega)]
      refine ⟨s.length - (i + 1), by omega, rfl, i + 1, by omega, rfl, rfl, ?_⟩
      rw [hd]
      have : (c == s[i]) = false := by simpa using Ne.symm h2
      rw [this, Bool.false_or]
  · have e : i = s.length := by have := of_decide_eq_false hc; omega
    subst e
    rw [hd, List.drop_length] at hk
    exact hk
end Rt
end Go.Proofs
