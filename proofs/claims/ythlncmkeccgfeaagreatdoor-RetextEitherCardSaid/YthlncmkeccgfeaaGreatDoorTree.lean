/- A part of the proofs over this seat: Tree. -/
import Derived.Test.YthlncmkeccgfeaaGreatDoorVcgRules
set_option linter.unusedVariables false
set_option linter.unusedSimpArgs false
set_option maxRecDepth 100000
namespace Go.Vcg
variable {P : Program}

/-! ### Loops that a model's fuel counts down -/
theorem min_fuel {p : Nat → Prop} (h : ∃ k, p k) : ∃ m, p m ∧ ∀ j, p j → m ≤ j := by
  obtain ⟨k, hk⟩ := h
  induction k using Nat.strongRecOn with
  | _ k ih =>
    by_cases hh : ∃ j, j < k ∧ p j
    · obtain ⟨j, hj, hp⟩ := hh
      exact ih j hj hp
    · exact ⟨k, hk, fun j hj => Nat.le_of_not_lt fun hlt => hh ⟨j, hlt, hj⟩⟩
open Classical in
noncomputable def least (p : Nat → Prop) : Nat := if h : ∃ k, p k then (min_fuel h).choose else 0
theorem least_spec {p : Nat → Prop} (h : ∃ k, p k) : p (least p) ∧ ∀ j, p j → least p ≤ j := by
  unfold least
  rw [dif_pos h]
  exact (min_fuel h).choose_spec
theorem least_iff {p : Nat → Prop} {k : Nat} : ((∃ j, p j) ∧ least p < k) ↔ ∃ j, j < k ∧ p j := by
  constructor
  · rintro ⟨h, hl⟩
    exact ⟨least p, hl, (least_spec h).1⟩
  · rintro ⟨j, hj, hp⟩
    exact ⟨⟨j, hp⟩, Nat.lt_of_le_of_lt ((least_spec ⟨j, hp⟩).2 j hp) hj⟩

theorem Loop0.fuel {h : Heap} {body : (Heap → Prop) → Heap → Prop} (Inv : Nat → Heap → Prop) {n : Nat} (h₀ : Inv n h)
    (hr : ∀ k h, Inv k h → body (fun h' => ∃ j, j < k ∧ Inv j h') h) : Loop0 h body := by
  refine Loop0.intro (fun h => ∃ k, Inv k h) (fun h => least fun k => Inv k h) ⟨n, h₀⟩ fun h hi => ?_
  have := hr _ h (least_spec hi).1
  have e : (fun h' => ∃ j, j < (least fun k => Inv k h) ∧ Inv j h') = fun h' => (∃ k, Inv k h') ∧ (least fun k => Inv k h') < least fun k => Inv k h := by
    funext h'
    exact propext least_iff.symm
  rwa [e] at this
theorem Loop1.fuel {a0 : Value} {h : Heap} {body : (Value → Heap → Prop) → Value → Heap → Prop} (Inv : Nat → Value → Heap → Prop) {n : Nat} (h₀ : Inv n a0 h)
    (hr : ∀ k a h, Inv k a h → body (fun b h' => ∃ j, j < k ∧ Inv j b h') a h) : Loop1 a0 h body := by
  refine Loop1.intro (fun a h => ∃ k, Inv k a h) (fun a h => least fun k => Inv k a h) ⟨n, h₀⟩ fun a h hi => ?_
  have := hr _ a h (least_spec hi).1
  have e : (fun b h' => ∃ j, j < (least fun k => Inv k a h) ∧ Inv j b h') = fun b h' => (∃ k, Inv k b h') ∧ (least fun k => Inv k b h') < least fun k => Inv k a h := by
    funext b h'
    exact propext least_iff.symm
  rwa [e] at this
theorem Loop2.fuel {a0 a1 : Value} {h : Heap} {body : (Value → Value → Heap → Prop) → Value → Value → Heap → Prop} (Inv : Nat → Value → Value → Heap → Prop) {n : Nat} (h₀ : Inv n a0 a1 h)
    (hr : ∀ k a c h, Inv k a c h → body (fun b d h' => ∃ j, j < k ∧ Inv j b d h') a c h) : Loop2 a0 a1 h body := by
  refine Loop2.intro (fun a c h => ∃ k, Inv k a c h) (fun a c h => least fun k => Inv k a c h) ⟨n, h₀⟩ fun a c h hi => ?_
  have := hr _ a c h (least_spec hi).1
  have e : (fun b d h' => ∃ j, j < (least fun k => Inv k a c h) ∧ Inv j b d h') = fun b d h' => (∃ k, Inv k b d h') ∧ (least fun k => Inv k b d h') < least fun k => Inv k a c h := by
    funext b d h'
    exact propext least_iff.symm
  rwa [e] at this
theorem Loop3.fuel {a0 a1 a2 : Value} {h : Heap} {body : (Value → Value → Value → Heap → Prop) → Value → Value → Value → Heap → Prop} (Inv : Nat → Value → Value → Value → Heap → Prop) {n : Nat} (h₀ : Inv n a0 a1 a2 h)
    (hr : ∀ k a c e h, Inv k a c e h → body (fun b d f h' => ∃ j, j < k ∧ Inv j b d f h') a c e h) : Loop3 a0 a1 a2 h body := by
  refine Loop3.intro (fun a c e h => ∃ k, Inv k a c e h) (fun a c e h => least fun k => Inv k a c e h) ⟨n, h₀⟩ fun a c e h hi => ?_
  have := hr _ a c e h (least_spec hi).1
  have eq : (fun b d f h' => ∃ j, j < (least fun k => Inv k a c e h) ∧ Inv j b d f h') = fun b d f h' => (∃ k, Inv k b d f h') ∧ (least fun k => Inv k b d f h') < least fun k => Inv k a c e h := by
    funext b d f h'
    exact propext least_iff.symm
  rwa [eq] at this

/-! ### Frames -/
/-- what lies below n is as it was, but for one block; nothing goes -/
structure Fm (n r : Nat) (h h' : Heap) : Prop where
  size : h.size ≤ h'.size
  same : ∀ k, k < n → k ≠ r → h'[k]? = h[k]?
theorem Fm.refl (n r : Nat) (h : Heap) : Fm n r h h := ⟨Nat.le_refl _, fun _ _ _ => rfl⟩
theorem Fm.trans {n r : Nat} {h h' h'' : Heap} (a : Fm n r h h') (b : Fm n r h' h'') : Fm n r h h'' :=
  ⟨Nat.le_trans a.size b.size, fun k hk hr => (b.same k hk hr).trans (a.same k hk hr)⟩
theorem Fm.less {n m r : Nat} {h h' : Heap} (a : Fm n r h h') (hm : m ≤ n) : Fm m r h h' := ⟨a.size, fun k hk hr => a.same k (by omega) hr⟩
theorem Fm.push {n r : Nat} {h : Heap} (hn : n ≤ h.size) (o : Obj) : Fm n r h (h.push o) := ⟨by simp, fun k hk _ => by rw [Array.getElem?_push, if_neg (by omega)]⟩
theorem Fm.upd {n r b : Nat} {h h' : Heap} {o : Obj} (u : Upd h h' b o) (hb : n ≤ b ∨ b = r) : Fm n r h h' :=
  ⟨by rw [u.size]; exact Nat.le_refl _, fun k hk hr => u.other k (by rcases hb with hb | hb <;> omega)⟩
theorem Fm.grown {n r : Nat} {h h' : Heap} {row : Option Nat} (g : GrownH h h' row) (hn : n ≤ h.size) (hr : ∀ b, row = some b → n ≤ b ∨ b = r) : Fm n r h h' :=
  ⟨g.size, fun k hk hkr => g.block k (by omega) fun e => by rcases hr k e.symm with h | h <;> omega⟩

theorem push_at (h : Heap) (o : Obj) : (h.push o)[h.size]? = some o := by simp
theorem push_old {h : Heap} {o : Obj} {k : Nat} (hk : k < h.size) : (h.push o)[k]? = h[k]? := by rw [Array.getElem?_push, if_neg (by omega)]

theorem at_lt {h : Heap} {k : Nat} {o : Obj} (hk : h[k]? = some o) : k < h.size := (Array.getElem?_eq_some_iff.1 hk).1

/-- one block is new -/
structure Al (h h' : Heap) (o : Obj) : Prop where
  size : h'.size = h.size + 1
  at_ : h'[h.size]? = some o
  old : ∀ k, k < h.size → h'[k]? = h[k]?
theorem Al.push (h : Heap) (o : Obj) : Al h (h.push o) o := ⟨by simp, push_at h o, fun _ hk => push_old hk⟩
theorem Fm.al {n r : Nat} {h h' : Heap} {o : Obj} (a : Al h h' o) (hn : n ≤ h.size) : Fm n r h h' := ⟨by rw [a.size]; omega, fun k hk _ => a.old k (by omega)⟩
theorem alloc_rule {T : TypeId} {z : Value} {h : Heap} {K : Value → Heap → Prop} (hz : zeroT P T = some z) (hk : ∀ h', Al h h' (.cells z.cells T (0, 0)) → K (.pointer (some ⟨h.size, 0, none⟩)) h') : pAlloc P T h K := by
  simp only [pAlloc, hz, need, pNew]
  exact hk _ (Al.push ..)
theorem new_rule {T : TypeId} {x : Value} {h : Heap} {K : Value → Heap → Prop} (hk : ∀ h', Al h h' (.cells x.cells T (0, 0)) → K (.pointer (some ⟨h.size, 0, none⟩)) h') : pNew T x h K := by
  simp only [pNew]
  exact hk _ (Al.push ..)
theorem slice1_rule {h : Heap} {K : Value → Heap → Prop} {E : List PanicEntry → Heap → Prop} {t e : TypeId} {z x : Value} {size bytes : Nat}
    (hi : InfoT P e z size bytes) (ht : P.underlying t = some (.slice e)) (hx : x.cells.size = size) (hs0 : 0 < size) (hs : size ≤ 1000)
    (hk : ∀ h', Al h h' (.cells x.cells e (0, 0)) → K (.slice (some ⟨h.size, 0, none⟩) 1 1) h') : Runs P (vS (Instr.buildSlice t 1 #[(0, x)])) h K E :=
  runs_buildSlice1' hi ht hx hs0 hs (hk _ (Al.push ..))

/-- rows that are read whole -/
theorem hcells_of {h : Heap} {b : Nat} {cs : Array Value} {t : TypeId} {fz : Nat × Nat} (hb : h[b]? = some (.cells cs t fz)) : ∀ (n i off : Nat), off + i + n ≤ cs.size →
    hcells h ⟨b, off, none⟩ i n = some ((cs.toList.drop (off + i)).take n)
  | 0, i, off, _ => by simp [hcells]
  | n + 1, i, off, hl => by
    have h1 : cs[off + i]? = some cs[off + i] := Array.getElem?_eq_getElem (by omega)
    simp only [hcells, addr_add, hcell_of hb, h1, hcells_of hb n (i + 1) off (by omega)]
    congr 1
    have hlt : off + i < cs.toList.length := by simp; omega
    rw [List.drop_eq_getElem_cons hlt, List.take_succ_cons]
    simp [Nat.add_assoc]

theorem load_row {t T : TypeId} {h : Heap} {b off n : Nat} {cs : Array Value} {fz : Nat × Nat} {k : Value → Prop} (hb : h[b]? = some (.cells cs t fz)) (hT : aggN P T = some (some n)) (hl : off + n ≤ cs.size)
    (hk : k (.agg ((cs.toList.drop off).take n).toArray)) : pLoad P T (.pointer (some ⟨b, off, none⟩)) h k := by
  unfold pLoad
  simp only [hT]
  exact ⟨_, hcells_of hb n 0 off (by omega), hk⟩
theorem load_all {t T : TypeId} {h : Heap} {b : Nat} {cs : Array Value} {fz : Nat × Nat} {k : Value → Prop} (hb : h[b]? = some (.cells cs t fz)) (hT : aggN P T = some (some cs.size))
    (hk : k (.agg cs)) : pLoad P T (.pointer (some ⟨b, 0, none⟩)) h k := by
  refine load_row hb hT (by omega) ?_
  have : (cs.toList.drop 0).take cs.size = cs.toList := by rw [List.drop_zero, List.take_of_length_le (by simp)]
  rw [this]
  exact hk

/-- a result is put into its place and read again -/
theorem ret_full {T t : TypeId} {h : Heap} {b : Nat} {cs xs : Array Value} {R : Value → Heap → Prop} (hb : h[b]? = some (.cells cs t (0, 0))) (hT : sizeT P T = some xs.size) (hA : aggN P T = some (some xs.size))
    (hs : cs.size = xs.size) (hx : ∀ v ∈ xs.toList, flat v = true) (hk : ∀ h', Upd h h' b (.cells xs t (0, 0)) → R (.agg xs) h') :
    pStore P T (.pointer (some ⟨b, 0, none⟩)) (.agg xs) h fun h' => pLoad P T (.pointer (some ⟨b, 0, none⟩)) h' fun r => R r h' :=
  storeFull hb hT hs hx fun h' hu => load_all hu.same hA (hk h' hu)

theorem runs_panic {v : Value} {h : Heap} {K : Value → Heap → Prop} {E : List PanicEntry → Heap → Prop} {t : TypeId} {x : Value} (hv : v = .iface t x) (he : E [{ v := v, recovered := false }] h) :
    Runs P (vS (Instr.panic v)) h K E := by
  intro w hw
  subst hw hv
  simp only [Instr.panic, vS]
  simp [goPanic, uponH, Same.refl]
  exact he

end Go.Vcg
namespace Go.Vcg
variable {P : Program}
theorem size_run {e : TypeId} {n : Nat} (hs : sizeT P e = some n) (w : World) : (sizeOf e).run P w = .ok n w := by
  unfold sizeT at hs
  split at hs
  · rename_i info hi
    simp only [Option.some.injEq] at hs
    simp [sizeOf, typeInfo, program, Sem.run, hi, hs]
  · cases hs
theorem reads_idxArr {t e : TypeId} {n sz i : Nat} {a : Addr} {K : IntKind} {h : Heap} {k : Value → Prop} (ht : P.underlying t = some (.array n e)) (hs : sizeT P e = some sz) (hi : i < n) :
    Reads P (Instr.indexAt t (.pointer (some a)) (.int K i)) h k = k (.pointer (some (a.add (i * sz)))) := reads_pure fun w => by
  simp [Instr.indexAt, asIntOf, Instr.sureAddr, Go.underlying, program, Sem.run, ht, size_run hs, hi]
theorem reads_idxRow {t e : TypeId} {n c sz i : Nat} {a : Addr} {K : IntKind} {h : Heap} {k : Value → Prop} (ht : P.underlying t = some (.slice e)) (hs : sizeT P e = some sz) (hi : i < n) :
    Reads P (Instr.indexAt t (.slice (some a) n c) (.int K i)) h k = k (.pointer (some (a.add (i * sz)))) := reads_pure fun w => by
  simp [Instr.indexAt, asIntOf, Go.underlying, program, Sem.run, ht, size_run hs, hi]
theorem reads_rlen {t r e : TypeId} {n c : Nat} {p : Option Addr} {h : Heap} {k : Value → Prop} (ht : P.underlying t = some (.slice e)) : Reads P (builtinS .len #[t] r #[.slice p n c]) h k = k (.int .i64 n) := reads_pure fun w => by
  simp [builtinS, Builtin.len_, Go.underlying, program, Sem.run, ht, goInt]
end Go.Vcg

namespace Go.Proofs.Rt
open Go.Vcg

/-! ### Trees -/
structure W4 where
  a : Nat
  b : Nat
  c : Nat
  d : Nat
  deriving DecidableEq
inductive T where
  | node (kind : Nat) (s : W4) (mn mx : Int) (g : Nat) (kids : List T)

def reL (kind : Nat) (s : W4) (mn mx : Int) (g : Nat) (kv : Value) : List Value :=
  [.int .i64 kind, .int .u64 s.a, .int .u64 s.b, .int .u64 s.c, .int .u64 s.d, .int .i64 mn, .int .i64 mx, .int .i64 g, kv]

mutual
def IsRe (h : Heap) (Q : Nat → Prop) : T → List Value → Prop
  | .node k s mn mx g ts, vs => ∃ kv, vs = reL k s mn mx g kv ∧ ((ts = [] ∧ kv = .slice none 0 0) ∨
      ∃ b cap cur, Q b ∧ kv = .slice (some ⟨b, 0, none⟩) ts.length cap ∧ ts.length ≤ cap ∧ ts.length * 9 ≤ cur.size ∧ h[b]? = some (.cells cur 36 (0, 0)) ∧ IsRow h Q ts (cur.toList.take (ts.length * 9)))
def IsRow (h : Heap) (Q : Nat → Prop) : List T → List Value → Prop
  | [], vs => vs = []
  | t :: ts, vs => ∃ v vs', vs = v ++ vs' ∧ IsRe h Q t v ∧ IsRow h Q ts vs'
end

mutual
theorem IsRe.frame {h h' : Heap} {Q Q' : Nat → Prop} (hq : ∀ b, Q b → b < h.size → Q' b ∧ h'[b]? = h[b]?) : ∀ {t : T} {vs : List Value}, IsRe h Q t vs → IsRe h' Q' t vs
  | .node k s mn mx g ts, vs, hr => by
    simp only [IsRe] at hr ⊢
    obtain ⟨kv, h1, h2⟩ := hr
    refine ⟨kv, h1, h2.imp id ?_⟩
    rintro ⟨b, cap, cur, hQ, e1, e2, e3, e4, e5⟩
    obtain ⟨q', e⟩ := hq b hQ (at_lt e4)
    exact ⟨b, cap, cur, q', e1, e2, e3, e.trans e4, IsRow.frame hq e5⟩
theorem IsRow.frame {h h' : Heap} {Q Q' : Nat → Prop} (hq : ∀ b, Q b → b < h.size → Q' b ∧ h'[b]? = h[b]?) : ∀ {ts : List T} {vs : List Value}, IsRow h Q ts vs → IsRow h' Q' ts vs
  | [], vs, hr => by simpa only [IsRow] using hr
  | t :: ts, vs, hr => by
    simp only [IsRow] at hr ⊢
    obtain ⟨v, vs', h1, h2, h3⟩ := hr
    exact ⟨v, vs', h1, IsRe.frame hq h2, IsRow.frame hq h3⟩
end

theorem IsRe.len {h : Heap} {Q : Nat → Prop} {t : T} {vs : List Value} (hr : IsRe h Q t vs) : vs.length = 9 := by
  cases t
  simp only [IsRe] at hr
  obtain ⟨kv, rfl, _⟩ := hr
  rfl
theorem IsRe.flat {h : Heap} {Q : Nat → Prop} {t : T} {vs : List Value} (hr : IsRe h Q t vs) : ∀ v ∈ vs, flat v = true := by
  cases t
  simp only [IsRe] at hr
  obtain ⟨kv, rfl, hk⟩ := hr
  have : Go.Vcg.flat kv = true := by
    rcases hk with ⟨_, rfl⟩ | ⟨_, _, _, _, rfl, _⟩ <;> rfl
  intro v hv
  simp only [reL, List.mem_cons, List.not_mem_nil, or_false] at hv
  rcases hv with rfl | rfl | rfl | rfl | rfl | rfl | rfl | rfl | rfl <;> first | rfl | exact this
theorem IsRow.len {h : Heap} {Q : Nat → Prop} : ∀ {ts : List T} {vs : List Value}, IsRow h Q ts vs → vs.length = ts.length * 9
  | [], vs, hr => by simp only [IsRow] at hr; simp [hr]
  | t :: ts, vs, hr => by
    simp only [IsRow] at hr
    obtain ⟨v, vs', rfl, h1, h2⟩ := hr
    simp [h1.len, h2.len]; omega
theorem IsRow.snoc {h : Heap} {Q : Nat → Prop} {t : T} {v : List Value} (ht : IsRe h Q t v) : ∀ {ts : List T} {vs : List Value}, IsRow h Q ts vs → IsRow h Q (ts ++ [t]) (vs ++ v)
  | [], vs, hr => by
    simp only [IsRow] at hr
    subst hr
    simp only [List.nil_append, IsRow]
    exact ⟨v, [], by simp, ht, rfl⟩
  | u :: ts, vs, hr => by
    simp only [IsRow] at hr
    obtain ⟨x, vs', rfl, h1, h2⟩ := hr
    simp only [List.cons_append, IsRow]
    exact ⟨x, vs' ++ v, by simp, h1, IsRow.snoc ht h2⟩
theorem IsRow.one {h : Heap} {Q : Nat → Prop} {t : T} {v : List Value} : IsRow h Q [t] v ↔ IsRe h Q t v := by
  simp only [IsRow]
  constructor
  · rintro ⟨a, b, rfl, h1, rfl⟩; simpa using h1
  · intro h1; exact ⟨v, [], by simp, h1, rfl⟩
end Go.Proofs.Rt
