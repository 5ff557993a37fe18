/- A part of the proofs over this seat: Par. -/
import Derived.Test.YthlncmkeccgfeaaGreatDoorVcgRules
import Derived.Test.YthlncmkeccgfeaaGreatDoorFacts
import Derived.Test.YthlncmkeccgfeaaGreatDoorT2b
set_option linter.unusedVariables false
set_option linter.unusedSimpArgs false
set_option maxRecDepth 100000
namespace Go.Vcg
variable {P : Program}

/-! ### Loops that a model's fuel counts down -/
theorem min_fuel {p : Nat → Prop} (h : ∃ k, p k) : ∃ m, p m ∧ ∀ j, p j → m ≤ j := by
  obtain ⟨k, hk⟩ := h
  induction k using Nat.strongRecOn with
  | _ k ih =>
    by_cases hh : ∃ j, j < k ∧ p j
    · obtain ⟨j, hj, hp⟩ := hh
      exact ih j hj hp
    · exact ⟨k, hk, fun j hj => Nat.le_of_not_lt fun hlt => hh ⟨j, hlt, hj⟩⟩
open Classical in
noncomputable def least (p : Nat → Prop) : Nat := if h : ∃ k, p k then (min_fuel h).choose else 0
theorem least_spec {p : Nat → Prop} (h : ∃ k, p k) : p (least p) ∧ ∀ j, p j → least p ≤ j := by
  unfold least
  rw [dif_pos h]
  exact (min_fuel h).choose_spec
theorem least_iff {p : Nat → Prop} {k : Nat} : ((∃ j, p j) ∧ least p < k) ↔ ∃ j, j < k ∧ p j := by
  constructor
  · rintro ⟨h, hl⟩
    exact ⟨least p, hl, (least_spec h).1⟩
  · rintro ⟨j, hj, hp⟩
    exact ⟨⟨j, hp⟩, Nat.lt_of_le_of_lt ((least_spec ⟨j, hp⟩).2 j hp) hj⟩

theorem Loop0.fuel {h : Heap} {body : (Heap → Prop) → Heap → Prop} (Inv : Nat → Heap → Prop) {n : Nat} (h₀ : Inv n h)
    (hr : ∀ k h, Inv k h → body (fun h' => ∃ j, j < k ∧ Inv j h') h) : Loop0 h body := by
  refine Loop0.intro (fun h => ∃ k, Inv k h) (fun h => least fun k => Inv k h) ⟨n, h₀⟩ fun h hi => ?_
  have := hr _ h (least_spec hi).1
  have e : (fun h' => ∃ j, j < (least fun k => Inv k h) ∧ Inv j h') = fun h' => (∃ k, Inv k h') ∧ (least fun k => Inv k h') < least fun k => Inv k h := by
    funext h'
    exact propext least_iff.symm
  rwa [e] at this
theorem Loop1.fuel {a0 : Value} {h : Heap} {body : (Value → Heap → Prop) → Value → Heap → Prop} (Inv : Nat → Value → Heap → Prop) {n : Nat} (h₀ : Inv n a0 h)
    (hr : ∀ k a h, Inv k a h → body (fun b h' => ∃ j, j < k ∧ Inv j b h') a h) : Loop1 a0 h body := by
  refine Loop1.intro (fun a h => ∃ k, Inv k a h) (fun a h => least fun k => Inv k a h) ⟨n, h₀⟩ fun a h hi => ?_
  have := hr _ a h (least_spec hi).1
  have e : (fun b h' => ∃ j, j < (least fun k => Inv k a h) ∧ Inv j b h') = fun b h' => (∃ k, Inv k b h') ∧ (least fun k => Inv k b h') < least fun k => Inv k a h := by
    funext b h'
    exact propext least_iff.symm
  rwa [e] at this
theorem Loop2.fuel {a0 a1 : Value} {h : Heap} {body : (Value → Value → Heap → Prop) → Value → Value → Heap → Prop} (Inv : Nat → Value → Value → Heap → Prop) {n : Nat} (h₀ : Inv n a0 a1 h)
    (hr : ∀ k a c h, Inv k a c h → body (fun b d h' => ∃ j, j < k ∧ Inv j b d h') a c h) : Loop2 a0 a1 h body := by
  refine Loop2.intro (fun a c h => ∃ k, Inv k a c h) (fun a c h => least fun k => Inv k a c h) ⟨n, h₀⟩ fun a c h hi => ?_
  have := hr _ a c h (least_spec hi).1
  have e : (fun b d h' => ∃ j, j < (least fun k => Inv k a c h) ∧ Inv j b d h') = fun b d h' => (∃ k, Inv k b d h') ∧ (least fun k => Inv k b d h') < least fun k => Inv k a c h := by
    funext b d h'
    exact propext least_iff.symm
  rwa [e] at this
theorem Loop3.fuel {a0 a1 a2 : Value} {h : Heap} {body : (Value → Value → Value → Heap → Prop) → Value → Value → Value → Heap → Prop} (Inv : Nat → Value → Value → Value → Heap → Prop) {n : Nat} (h₀ : Inv n a0 a1 a2 h)
    (hr : ∀ k a c e h, Inv k a c e h → body (fun b d f h' => ∃ j, j < k ∧ Inv j b d f h') a c e h) : Loop3 a0 a1 a2 h body := by
  refine Loop3.intro (fun a c e h => ∃ k, Inv k a c e h) (fun a c e h => least fun k => Inv k a c e h) ⟨n, h₀⟩ fun a c e h hi => ?_
  have := hr _ a c e h (least_spec hi).1
  have eq : (fun b d f h' => ∃ j, j < (least fun k => Inv k a c e h) ∧ Inv j b d f h') = fun b d f h' => (∃ k, Inv k b d f h') ∧ (least fun k => Inv k b d f h') < least fun k => Inv k a c e h := by
    funext b d f h'
    exact propext least_iff.symm
  rwa [eq] at this

/-! ### Frames -/
/-- what lies below n is as it was, but for one block; nothing goes -/
structure Fm (n r : Nat) (h h' : Heap) : Prop where
  size : h.size ≤ h'.size
  same : ∀ k, k < n → k ≠ r → h'[k]? = h[k]?
theorem Fm.refl (n r : Nat) (h : Heap) : Fm n r h h := ⟨Nat.le_refl _, fun _ _ _ => rfl⟩
theorem Fm.trans {n r : Nat} {h h' h'' : Heap} (a : Fm n r h h') (b : Fm n r h' h'') : Fm n r h h'' :=
  ⟨Nat.le_trans a.size b.size, fun k hk hr => (b.same k hk hr).trans (a.same k hk hr)⟩
theorem Fm.less {n m r : Nat} {h h' : Heap} (a : Fm n r h h') (hm : m ≤ n) : Fm m r h h' := ⟨a.size, fun k hk hr => a.same k (by omega) hr⟩
theorem Fm.push {n r : Nat} {h : Heap} (hn : n ≤ h.size) (o : Obj) : Fm n r h (h.push o) := ⟨by simp, fun k hk _ => by rw [Array.getElem?_push, if_neg (by omega)]⟩
theorem Fm.upd {n r b : Nat} {h h' : Heap} {o : Obj} (u : Upd h h' b o) (hb : n ≤ b ∨ b = r) : Fm n r h h' :=
  ⟨by rw [u.size]; exact Nat.le_refl _, fun k hk hr => u.other k (by rcases hb with hb | hb <;> omega)⟩
theorem Fm.grown {n r : Nat} {h h' : Heap} {row : Option Nat} (g : GrownH h h' row) (hn : n ≤ h.size) (hr : ∀ b, row = some b → n ≤ b ∨ b = r) : Fm n r h h' :=
  ⟨g.size, fun k hk hkr => g.block k (by omega) fun e => by rcases hr k e.symm with h | h <;> omega⟩

theorem push_at (h : Heap) (o : Obj) : (h.push o)[h.size]? = some o := by simp
theorem push_old {h : Heap} {o : Obj} {k : Nat} (hk : k < h.size) : (h.push o)[k]? = h[k]? := by rw [Array.getElem?_push, if_neg (by omega)]

theorem at_lt {h : Heap} {k : Nat} {o : Obj} (hk : h[k]? = some o) : k < h.size := (Array.getElem?_eq_some_iff.1 hk).1

/-- one block is new -/
structure Al (h h' : Heap) (o : Obj) : Prop where
  size : h'.size = h.size + 1
  at_ : h'[h.size]? = some o
  old : ∀ k, k < h.size → h'[k]? = h[k]?
theorem Al.push (h : Heap) (o : Obj) : Al h (h.push o) o := ⟨by simp, push_at h o, fun _ hk => push_old hk⟩
theorem Fm.al {n r : Nat} {h h' : Heap} {o : Obj} (a : Al h h' o) (hn : n ≤ h.size) : Fm n r h h' := ⟨by rw [a.size]; omega, fun k hk _ => a.old k (by omega)⟩
theorem alloc_rule {T : TypeId} {z : Value} {h : Heap} {K : Value → Heap → Prop} (hz : zeroT P T = some z) (hk : ∀ h', Al h h' (.cells z.cells T (0, 0)) → K (.pointer (some ⟨h.size, 0, none⟩)) h') : pAlloc P T h K := by
  simp only [pAlloc, hz, need, pNew]
  exact hk _ (Al.push ..)
theorem new_rule {T : TypeId} {x : Value} {h : Heap} {K : Value → Heap → Prop} (hk : ∀ h', Al h h' (.cells x.cells T (0, 0)) → K (.pointer (some ⟨h.size, 0, none⟩)) h') : pNew T x h K := by
  simp only [pNew]
  exact hk _ (Al.push ..)
theorem slice1_rule {h : Heap} {K : Value → Heap → Prop} {E : List PanicEntry → Heap → Prop} {t e : TypeId} {z x : Value} {size bytes : Nat}
    (hi : InfoT P e z size bytes) (ht : P.underlying t = some (.slice e)) (hx : x.cells.size = size) (hs0 : 0 < size) (hs : size ≤ 1000)
    (hk : ∀ h', Al h h' (.cells x.cells e (0, 0)) → K (.slice (some ⟨h.size, 0, none⟩) 1 1) h') : Runs P (vS (Instr.buildSlice t 1 #[(0, x)])) h K E :=
  runs_buildSlice1' hi ht hx hs0 hs (hk _ (Al.push ..))

/-- rows that are read whole -/
theorem hcells_of {h : Heap} {b : Nat} {cs : Array Value} {t : TypeId} {fz : Nat × Nat} (hb : h[b]? = some (.cells cs t fz)) : ∀ (n i off : Nat), off + i + n ≤ cs.size →
    hcells h ⟨b, off, none⟩ i n = some ((cs.toList.drop (off + i)).take n)
  | 0, i, off, _ => by simp [hcells]
  | n + 1, i, off, hl => by
    have h1 : cs[off + i]? = some cs[off + i] := Array.getElem?_eq_getElem (by omega)
    simp only [hcells, addr_add, hcell_of hb, h1, hcells_of hb n (i + 1) off (by omega)]
    congr 1
    have hlt : off + i < cs.toList.length := by simp; omega
    rw [List.drop_eq_getElem_cons hlt, List.take_succ_cons]
    simp [Nat.add_assoc]

theorem load_row {t T : TypeId} {h : Heap} {b off n : Nat} {cs : Array Value} {fz : Nat × Nat} {k : Value → Prop} (hb : h[b]? = some (.cells cs t fz)) (hT : aggN P T = some (some n)) (hl : off + n ≤ cs.size)
    (hk : k (.agg ((cs.toList.drop off).take n).toArray)) : pLoad P T (.pointer (some ⟨b, off, none⟩)) h k := by
  unfold pLoad
  simp only [hT]
  exact ⟨_, hcells_of hb n 0 off (by omega), hk⟩
theorem load_all {t T : TypeId} {h : Heap} {b : Nat} {cs : Array Value} {fz : Nat × Nat} {k : Value → Prop} (hb : h[b]? = some (.cells cs t fz)) (hT : aggN P T = some (some cs.size))
    (hk : k (.agg cs)) : pLoad P T (.pointer (some ⟨b, 0, none⟩)) h k := by
  refine load_row hb hT (by omega) ?_
  have : (cs.toList.drop 0).take cs.size = cs.toList := by rw [List.drop_zero, List.take_of_length_le (by simp)]
  rw [this]
  exact hk

/-- a result is put into its place and read again -/
theorem ret_full {T t : TypeId} {h : Heap} {b : Nat} {cs xs : Array Value} {R : Value → Heap → Prop} (hb : h[b]? = some (.cells cs t (0, 0))) (hT : sizeT P T = some xs.size) (hA : aggN P T = some (some xs.size))
    (hs : cs.size = xs.size) (hx : ∀ v ∈ xs.toList, flat v = true) (hk : ∀ h', Upd h h' b (.cells xs t (0, 0)) → R (.agg xs) h') :
    pStore P T (.pointer (some ⟨b, 0, none⟩)) (.agg xs) h fun h' => pLoad P T (.pointer (some ⟨b, 0, none⟩)) h' fun r => R r h' :=
  storeFull hb hT hs hx fun h' hu => load_all hu.same hA (hk h' hu)

theorem runs_panic {v : Value} {h : Heap} {K : Value → Heap → Prop} {E : List PanicEntry → Heap → Prop} {t : TypeId} {x : Value} (hv : v = .iface t x) (he : E [{ v := v, recovered := false }] h) :
    Runs P (vS (Instr.panic v)) h K E := by
  intro w hw
  subst hw hv
  simp only [Instr.panic, vS]
  simp [goPanic, uponH, Same.refl]
  exact he

end Go.Vcg
namespace Go.Vcg
variable {P : Program}
theorem size_run {e : TypeId} {n : Nat} (hs : sizeT P e = some n) (w : World) : (sizeOf e).run P w = .ok n w := by
  unfold sizeT at hs
  split at hs
  · rename_i info hi
    simp only [Option.some.injEq] at hs
    simp [sizeOf, typeInfo, program, Sem.run, hi, hs]
  · cases hs
theorem reads_idxArr {t e : TypeId} {n sz i : Nat} {a : Addr} {K : IntKind} {h : Heap} {k : Value → Prop} (ht : P.underlying t = some (.array n e)) (hs : sizeT P e = some sz) (hi : i < n) :
    Reads P (Instr.indexAt t (.pointer (some a)) (.int K i)) h k = k (.pointer (some (a.add (i * sz)))) := reads_pure fun w => by
  simp [Instr.indexAt, asIntOf, Instr.sureAddr, Go.underlying, program, Sem.run, ht, size_run hs, hi]
theorem reads_idxRow {t e : TypeId} {n c sz i : Nat} {a : Addr} {K : IntKind} {h : Heap} {k : Value → Prop} (ht : P.underlying t = some (.slice e)) (hs : sizeT P e = some sz) (hi : i < n) :
    Reads P (Instr.indexAt t (.slice (some a) n c) (.int K i)) h k = k (.pointer (some (a.add (i * sz)))) := reads_pure fun w => by
  simp [Instr.indexAt, asIntOf, Go.underlying, program, Sem.run, ht, size_run hs, hi]
theorem reads_rlen {t r e : TypeId} {n c : Nat} {p : Option Addr} {h : Heap} {k : Value → Prop} (ht : P.underlying t = some (.slice e)) : Reads P (builtinS .len #[t] r #[.slice p n c]) h k = k (.int .i64 n) := reads_pure fun w => by
  simp [builtinS, Builtin.len_, Go.underlying, program, Sem.run, ht, goInt]
end Go.Vcg

namespace Go.Proofs.Rt
open Go.Vcg

/-! ### Trees -/
structure W4 where
  a : Nat
  b : Nat
  c : Nat
  d : Nat
  deriving DecidableEq
inductive T where
  | node (kind : Nat) (s : W4) (mn mx : Int) (g : Nat) (kids : List T)

def reL (kind : Nat) (s : W4) (mn mx : Int) (g : Nat) (kv : Value) : List Value :=
  [.int .i64 kind, .int .u64 s.a, .int .u64 s.b, .int .u64 s.c, .int .u64 s.d, .int .i64 mn, .int .i64 mx, .int .i64 g, kv]

mutual
def IsRe (h : Heap) (Q : Nat → Prop) : T → List Value → Prop
  | .node k s mn mx g ts, vs => ∃ kv, vs = reL k s mn mx g kv ∧ ((ts = [] ∧ kv = .slice none 0 0) ∨
      ∃ b cap cur, Q b ∧ kv = .slice (some ⟨b, 0, none⟩) ts.length cap ∧ ts.length ≤ cap ∧ ts.length * 9 ≤ cur.size ∧ h[b]? = some (.cells cur 36 (0, 0)) ∧ IsRow h Q ts (cur.toList.take (ts.length * 9)))
def IsRow (h : Heap) (Q : Nat → Prop) : List T → List Value → Prop
  | [], vs => vs = []
  | t :: ts, vs => ∃ v vs', vs = v ++ vs' ∧ IsRe h Q t v ∧ IsRow h Q ts vs'
end

mutual
theorem IsRe.frame {h h' : Heap} {Q Q' : Nat → Prop} (hq : ∀ b, Q b → b < h.size → Q' b ∧ h'[b]? = h[b]?) : ∀ {t : T} {vs : List Value}, IsRe h Q t vs → IsRe h' Q' t vs
  | .node k s mn mx g ts, vs, hr => by
    simp only [IsRe] at hr ⊢
    obtain ⟨kv, h1, h2⟩ := hr
    refine ⟨kv, h1, h2.imp id ?_⟩
    rintro ⟨b, cap, cur, hQ, e1, e2, e3, e4, e5⟩
    obtain ⟨q', e⟩ := hq b hQ (at_lt e4)
    exact ⟨b, cap, cur, q', e1, e2, e3, e.trans e4, IsRow.frame hq e5⟩
theorem IsRow.frame {h h' : Heap} {Q Q' : Nat → Prop} (hq : ∀ b, Q b → b < h.size → Q' b ∧ h'[b]? = h[b]?) : ∀ {ts : List T} {vs : List Value}, IsRow h Q ts vs → IsRow h' Q' ts vs
  | [], vs, hr => by simpa only [IsRow] using hr
  | t :: ts, vs, hr => by
    simp only [IsRow] at hr ⊢
    obtain ⟨v, vs', h1, h2, h3⟩ := hr
    exact ⟨v, vs', h1, IsRe.frame hq h2, IsRow.frame hq h3⟩
end

theorem IsRe.len {h : Heap} {Q : Nat → Prop} {t : T} {vs : List Value} (hr : IsRe h Q t vs) : vs.length = 9 := by
  cases t
  simp only [IsRe] at hr
  obtain ⟨kv, rfl, _⟩ := hr
  rfl
theorem IsRe.flat {h : Heap} {Q : Nat → Prop} {t : T} {vs : List Value} (hr : IsRe h Q t vs) : ∀ v ∈ vs, flat v = true := by
  cases t
  simp only [IsRe] at hr
  obtain ⟨kv, rfl, hk⟩ := hr
  have : Go.Vcg.flat kv = true := by
    rcases hk with ⟨_, rfl⟩ | ⟨_, _, _, _, rfl, _⟩ <;> rfl
  intro v hv
  simp only [reL, List.mem_cons, List.not_mem_nil, or_false] at hv
  rcases hv with rfl | rfl | rfl | rfl | rfl | rfl | rfl | rfl | rfl <;> first | rfl | exact this
theorem IsRow.len {h : Heap} {Q : Nat → Prop} : ∀ {ts : List T} {vs : List Value}, IsRow h Q ts vs → vs.length = ts.length * 9
  | [], vs, hr => by simp only [IsRow] at hr; simp [hr]
  | t :: ts, vs, hr => by
    simp only [IsRow] at hr
    obtain ⟨v, vs', rfl, h1, h2⟩ := hr
    simp [h1.len, h2.len]; omega
theorem IsRow.snoc {h : Heap} {Q : Nat → Prop} {t : T} {v : List Value} (ht : IsRe h Q t v) : ∀ {ts : List T} {vs : List Value}, IsRow h Q ts vs → IsRow h Q (ts ++ [t]) (vs ++ v)
  | [], vs, hr => by
    simp only [IsRow] at hr
    subst hr
    simp only [List.nil_append, IsRow]
    exact ⟨v, [], by simp, ht, rfl⟩
  | u :: ts, vs, hr => by
    simp only [IsRow] at hr
    obtain ⟨x, vs', rfl, h1, h2⟩ := hr
    simp only [List.cons_append, IsRow]
    exact ⟨x, vs' ++ v, by simp, h1, IsRow.snoc ht h2⟩
theorem IsRow.one {h : Heap} {Q : Nat → Prop} {t : T} {v : List Value} : IsRow h Q [t] v ↔ IsRe h Q t v := by
  simp only [IsRow]
  constructor
  · rintro ⟨a, b, rfl, h1, rfl⟩; simpa using h1
  · intro h1; exact ⟨v, [], by simp, h1, rfl⟩
end Go.Proofs.Rt

set_option maxRecDepth 100000
namespace Go.Proofs
open Go.Vcg
namespace Rt
attribute [local congr] Reads.congr ReadsS.congr pLoad.congr pLoadS.congr pStore.congr Runs.congr CallsH.congr bcase.congr boolV.congr Stable.congr pAlloc.congr
abbrev ptr (r : Nat) : Value := .pointer (some ⟨r, 0, none⟩)

/-! ### Sets of bytes -/
def W4.vals (s : W4) : List Value := [.int .u64 s.a, .int .u64 s.b, .int .u64 s.c, .int .u64 s.d]
def W4.ok (s : W4) : Prop := s.a < 2 ^ 64 ∧ s.b < 2 ^ 64 ∧ s.c < 2 ^ 64 ∧ s.d < 2 ^ 64
def W4.zero : W4 := ⟨0, 0, 0, 0⟩
def W4.put (s : W4) (c : UInt8) : W4 :=
  match c.toNat / 64 with
  | 0 => { s with a := s.a ||| 2 ^ (c.toNat % 64) }
  | 1 => { s with b := s.b ||| 2 ^ (c.toNat % 64) }
  | 2 => { s with c := s.c ||| 2 ^ (c.toNat % 64) }
  | _ => { s with d := s.d ||| 2 ^ (c.toNat % 64) }
theorem lor_lt {x m : Nat} (hx : x < 2 ^ 64) (hm : m < 64) : x ||| 2 ^ m < 2 ^ 64 := Nat.or_lt_two_pow hx (Nat.pow_lt_pow_right (by omega) hm)
theorem W4.put_ok {s : W4} (h : s.ok) (c : UInt8) : (s.put c).ok := by
  have hm : c.toNat % 64 < 64 := Nat.mod_lt _ (by omega)
  unfold W4.put
  obtain ⟨h1, h2, h3, h4⟩ := h
  split
  · exact ⟨lor_lt h1 hm, h2, h3, h4⟩
  · exact ⟨h1, lor_lt h2 hm, h3, h4⟩
  · exact ⟨h1, h2, lor_lt h3 hm, h4⟩
  · exact ⟨h1, h2, h3, lor_lt h4 hm⟩
theorem W4.zero_ok : W4.zero.ok := by refine ⟨?_, ?_, ?_, ?_⟩ <;> exact Nat.two_pow_pos 64

theorem u64_wrap {x : Nat} (hx : x < 2 ^ 64) : IntKind.u64.wrap (x : Int) = (x : Int) := by
  simp only [IntKind.wrap, IntKind.bits, IntKind.signed]
  simp
  omega
theorem or_word {x m : Nat} (hx : x < 2 ^ 64) (hm : m < 64) :
    IntKind.u64.wrap (BitVec.ofInt IntKind.u64.bits (x : Int) ||| BitVec.ofInt IntKind.u64.bits (IntKind.u64.wrap ((1 : Int) * 2 ^ min ((m : Int)).toNat IntKind.u64.bits))).toNat = ((x ||| 2 ^ m : Nat) : Int) := by
  have h2 : (2 : Nat) ^ m < 2 ^ 64 := Nat.pow_lt_pow_right (by omega) hm
  have e0 : min ((m : Int)).toNat IntKind.u64.bits = m := by simp [IntKind.bits]; omega
  have e1 : (1 : Int) * 2 ^ min ((m : Int)).toNat IntKind.u64.bits = ((2 ^ m : Nat) : Int) := by rw [e0]; simp
  rw [e1, u64_wrap h2]
  have e2 : ∀ y : Nat, y < 2 ^ 64 → (BitVec.ofInt IntKind.u64.bits (y : Int)).toNat = y := by
    intro y hy
    simp only [IntKind.bits, BitVec.ofInt_natCast, BitVec.toNat_ofNat]
    exact Nat.mod_eq_of_lt hy
  rw [BitVec.toNat_or, e2 x hx, e2 _ h2]
  exact u64_wrap (Nat.or_lt_two_pow hx h2)
theorem u8_quo (c : UInt8) : IntKind.u8.wrap ((c.toNat : Int).tdiv 64) = ((c.toNat / 64 : Nat) : Int) := by
  have hc := c.toNat_lt
  have e : (c.toNat : Int).tdiv 64 = ((c.toNat / 64 : Nat) : Int) := by rw [Int.tdiv_eq_ediv_of_nonneg (by omega)]; rfl
  rw [e]
  simp only [IntKind.wrap, IntKind.bits, IntKind.signed]
  simp
  omega
theorem u8_rem (c : UInt8) : ((c.toNat : Int).tmod 64) = ((c.toNat % 64 : Nat) : Int) := by
  rw [Int.tmod_eq_emod_of_nonneg (by omega)]; rfl

theorem put_spec {h : Heap} {b : Nat} {s : W4} {c : UInt8} {R : Value → Heap → Prop} {E : List PanicEntry → Heap → Prop} (hs : s.ok)
    (hb : h[b]? = some (.cells s.vals.toArray 33 (0, 0))) (hk : ∀ h', Upd h h' b (.cells (s.put c).vals.toArray 33 (0, 0)) → R (.tuple #[]) h') :
    CallsH Tryz.prog 130 #[ptr b, .int .u8 c.toNat] h R E := by
  refine C130 ?_
  unfold S130
  have hc : c.toNat / 64 < 4 := by have := c.toNat_lt; omega
  have hm : c.toNat % 64 < 64 := Nat.mod_lt _ (by omega)
  have hn : ¬ ((c.toNat % 64 : Nat) : Int) < 0 := by omega
  simp only [boolV_bool, bcase_true, bcase_false, need, reads_nil, pLoad, Tryz.agg31, reads_or, Tryz.size31, reads_quo (by omega : (64 : Int) ≠ 0), reads_rem (by omega : (64 : Int) ≠ 0), u8_rem, reads_shl hn, reads_or, u8_quo, reads_idxArr Tryz.underlying33 Tryz.size31 hc, hcell_of hb, addr_add, hcell_mk, List.getElem?_toArray, List.getElem?_cons_zero, List.getElem?_cons_succ, Option.some.injEq, exists_eq_left', Nat.reduceAdd, Nat.zero_add, Option.isSome_none, Bool.false_eq_true, if_false, Nat.mul_one, true_and, and_true]
  obtain ⟨h1, h2, h3, h4⟩ := hs
  have fin : ∀ (q : Nat) (x : Nat), c.toNat / 64 = q → s.vals[q]? = some (.int .u64 x) → x < 2 ^ 64 → (s.put c).vals.toArray = s.vals.toArray.setIfInBounds q (.int .u64 ((x ||| 2 ^ (c.toNat % 64) : Nat) : Int)) →
      ∃ v, s.vals[c.toNat / 64]? = some v ∧ Reads Tryz.prog (binS BinOp.or 31 false v (Value.int IntKind.u64 (IntKind.u64.wrap ((1 : Int) * 2 ^ min ((c.toNat % 64 : Nat) : Int).toNat IntKind.u64.bits)))) h fun t13 =>
        pStore Tryz.prog 31 (Value.pointer (some { block := b, off := c.toNat / 64 })) t13 h fun h1 => R (Value.tuple #[]) h1 := by
    intro q x hq hx hlt he
    rw [hq]
    refine ⟨_, hx, ?_⟩
    rw [reads_or, or_word hlt hm]
    exact store1 hb Tryz.size31 rfl (by have := (List.getElem?_eq_some_iff.1 hx).1; simpa using this) fun h' hu => hk h' (by rw [he]; exact hu)
  rcases (by omega : c.toNat / 64 = 0 ∨ c.toNat / 64 = 1 ∨ c.toNat / 64 = 2 ∨ c.toNat / 64 = 3) with hq | hq | hq | hq
  · exact fin 0 s.a hq rfl h1 (by simp [W4.put, hq, W4.vals])
  · exact fin 1 s.b hq rfl h2 (by simp [W4.put, hq, W4.vals])
  · exact fin 2 s.c hq rfl h3 (by simp [W4.put, hq, W4.vals])
  · exact fin 3 s.d hq rfl h4 (by simp [W4.put, hq, W4.vals])

def setOf (l : List UInt8) : W4 := l.foldl W4.put .zero
theorem foldl_ok : ∀ (l : List UInt8) {s : W4}, s.ok → (l.foldl W4.put s).ok
  | [], s, h => h
  | c :: l, s, h => foldl_ok l (W4.put_ok h c)

theorem of_spec {h : Heap} {l : List UInt8} {R : Value → Heap → Prop} {E : List PanicEntry → Heap → Prop} (hl : l.length ≤ 4611686018427387904)
    (hk : ∀ h', Fm h.size h.size h h' → R (.agg (setOf l).vals.toArray) h') : CallsH Tryz.prog 120 #[str l] h R E := by
  refine C120 ?_
  unfold S120
  refine alloc_rule Tryz.zero33 fun h1 a1 => alloc_rule Tryz.zero33 fun h2 a2 => ?_
  simp only [boolV_bool, bcase_true, bcase_false, need, Tryz.zero33, reads_lt, reads_add, Tryz.agg33, Tryz.size33, reads_slen Tryz.underlying9, hcell_mk, List.getElem?_toArray, List.getElem?_cons_zero, List.getElem?_cons_succ, Option.some.injEq, exists_eq_left', Nat.reduceAdd, Nat.zero_add, Option.isSome_none, Bool.false_eq_true, if_false]
  have f2 : Fm h.size h.size h h2 := (Fm.al a1 (Nat.le_refl _)).trans (Fm.al a2 (by rw [a1.size]; omega))
  refine Loop1.fuel (Inv := fun k a h' => ∃ i, i ≤ l.length ∧ k = l.length - i ∧ a = .int .i64 i ∧ Fm h.size h.size h h' ∧ h'[h.size]? = some (.cells W4.zero.vals.toArray 33 (0, 0)) ∧ h'[h1.size]? = some (.cells ((l.take i).foldl W4.put .zero).vals.toArray 33 (0, 0)))
    (n := l.length) ⟨0, by omega, by simp, rfl, f2, ?_, ?_⟩ ?_
  · rw [a2.old _ (by rw [a1.size]; omega)]; exact a1.at_
  · exact a2.at_
  · rintro k a h3 ⟨i, hi, rfl, rfl, hf, hb2, hb3⟩
    simp only [reads_lt, boolV_bool]
    refine bcase_of (fun hc => ?_) (fun hc => ?_)
    · have hlt : i < l.length := by have := of_decide_eq_true hc; omega
      rw [reads_sindex Tryz.underlying9 hlt]
      refine put_spec (foldl_ok _ W4.zero_ok) hb3 fun h4 hu => ?_
      rw [reads_add, wrap_n1 _ (by omega)]
      refine ⟨l.length - (i + 1), by omega, i + 1, by omega, rfl, rfl, hf.trans (Fm.upd hu (.inl (by rw [a1.size]; omega))), ?_, ?_⟩
      · rw [hu.other _ (by rw [a1.size]; omega)]; exact hb2
      · rw [hu.same, List.take_add_one, List.foldl_append, List.getElem?_eq_getElem hlt]; rfl
    · have hil : i = l.length := by have := of_decide_eq_false hc; omega
      subst hil
      refine load_all hb3 Tryz.agg33 ?_
      refine ret_full hb2 Tryz.size33 Tryz.agg33 rfl ?_ fun h4 hu => ?_
      · intro v hv
        simp only [W4.vals, List.mem_cons, List.not_mem_nil, or_false] at hv
        rcases hv with rfl | rfl | rfl | rfl <;> rfl
      · rw [List.take_length]
        exact hk h4 (hf.trans (Fm.upd hu (.inl (Nat.le_refl _))))

def single (c : UInt8) : T := .node 1 (setOf [c]) 0 0 0 []
theorem IsRe.leaf {h : Heap} {Q : Nat → Prop} {k : Nat} {s : W4} {mn mx : Int} {g : Nat} : IsRe h Q (.node k s mn mx g []) (reL k s mn mx g (.slice none 0 0)) := by
  simp only [IsRe]
  exact ⟨_, rfl, .inl (by simp)⟩
theorem BytesAt.one {h : Heap} {b : Nat} {c : UInt8} {t : TypeId} (hb : h[b]? = some (.cells #[.int .u8 c.toNat] t (0, 0))) : IsBytes h (.slice (some ⟨b, 0, none⟩) 1 1) [c] := by
  refine .inr ⟨b, 0, 1, rfl, by simp, fun i hi => ?_⟩
  have : i = 0 := by simpa using hi
  subst this
  rw [hcell_of hb]; rfl
theorem single_spec {h : Heap} {c : UInt8} {R : Value → Heap → Prop} {E : List PanicEntry → Heap → Prop}
    (hk : ∀ h', Fm h.size h.size h h' → R (.agg (reL 1 (setOf [c]) 0 0 0 (.slice none 0 0)).toArray) h') : CallsH Tryz.prog 108 #[.int .u8 c.toNat] h R E := by
  refine C108 ?_
  unfold S108
  refine alloc_rule Tryz.zero36 fun h1 a1 => ?_
  refine slice1_rule Tryz.info5 Tryz.underlying29 rfl (by omega) (by omega) fun h2 a2 => ?_
  rw [reads_bstring (BytesAt.one a2.at_) Tryz.underlying29 Tryz.underlying5 Tryz.underlying9]
  refine of_spec (by simp) fun h3 f3 => ?_
  have e : (Value.agg (setOf [c]).vals.toArray) = .agg #[.int .u64 (setOf [c]).a, .int .u64 (setOf [c]).b, .int .u64 (setOf [c]).c, .int .u64 (setOf [c]).d] := rfl
  have f2 : Fm h.size h.size h h3 := ((Fm.al a1 (Nat.le_refl _)).trans (Fm.al a2 (by rw [a1.size]; omega))).trans ⟨f3.size, fun k hk _ => f3.same k (by rw [a2.size, a1.size]; omega) (by rw [a2.size, a1.size]; omega)⟩
  have hb := (f3.same h.size (by rw [a2.size, a1.size]; omega) (by rw [a2.size, a1.size]; omega)).trans ((a2.old h.size (by rw [a1.size]; omega)).trans a1.at_)
  rw [e]
  simp only [boolV_bool, bcase_true, bcase_false, need, Tryz.zero36, Tryz.bd36_0_1, Tryz.size36, Tryz.agg36]
  refine ret_full hb Tryz.size36 Tryz.agg36 rfl ?_ fun h4 hu => hk h4 (f2.trans (Fm.upd hu (.inl (Nat.le_refl _))))
  intro v hv
  simp only [List.mem_cons, List.not_mem_nil, or_false] at hv
  rcases hv with rfl | rfl | rfl | rfl | rfl | rfl | rfl | rfl | rfl <;> rfl
end Rt
end Go.Proofs

set_option maxRecDepth 100000
namespace Go.Proofs
open Go.Vcg
namespace Rt
attribute [local congr] Reads.congr ReadsS.congr pLoad.congr pLoadS.congr pStore.congr Runs.congr CallsH.congr bcase.congr boolV.congr Stable.congr pAlloc.congr

/-! ### The reader -/
def Rdr (h : Heap) (r : Nat) (bv : Value) (p : Nat) (ext : Bool) (op gr : Nat) : Prop :=
  h[r]? = some (.cells #[bv, .int .i64 p, .bool ext, .int .i64 op, .int .i64 gr] 57 (0, 0))
/-- the package's variables: what they hold; below N lies all that they reach -/
structure Glb where
  v : Nat → Value
  N : Nat
/-- the errors at the bottom, each a pointer of its own; the type of errors; the greatest length of a search -/
structure Gl (S : Glb) (h : Heap) : Prop where
  n26 : 26 ≤ S.N
  s : ∀ i, i < 22 → i ≠ 10 → hcell h ⟨i, 0, none⟩ = some (S.v i) ∧ ∃ a, S.v i = .iface 199 (.pointer (some a)) ∧ a.block < S.N ∧ ∃ c t, h[a.block]? = some (.cells c t (0, 0))
  inj : ∀ i j, i < 22 → i ≠ 10 → j < 22 → j ≠ 10 → S.v i = S.v j → i = j
  t : hcell h ⟨10, 0, none⟩ = some (.iface 117 (.agg #[.pointer (some ⟨26, 26, none⟩)]))
  m : ∃ m, hcell h ⟨22, 0, none⟩ = some (.int .i64 m)
structure Cx (S : Glb) (n : Nat) (h : Heap) (r : Nat) (bv : Value) (l : List UInt8) (p : Nat) (ext : Bool) (op gr : Nat) : Prop where
  rd : Rdr h r bv p ext op gr
  by_ : IsBytes h bv l
  ne : ∀ b o m c, bv = .slice (some ⟨b, o, none⟩) m c → b ≠ r ∧ b < n
  le : p ≤ l.length
  len : l.length ≤ 256
  gl : Gl S h
  r22 : S.N ≤ r
  n22 : S.N ≤ n
  nle : n ≤ h.size
  opg : op ≤ gr
  g9 : gr ≤ 9
variable {S : Glb} {n : Nat} {h : Heap} {r : Nat} {bv : Value} {l : List UInt8} {p : Nat} {ext : Bool} {op gr : Nat} {R : Value → Heap → Prop} {E : List PanicEntry → Heap → Prop}

theorem Gl.fm {h' : Heap} (g : Gl S h) (f : Fm n r h h') (hn : S.N ≤ n) (hr : S.N ≤ r) : Gl S h' := by
  have h26 := g.n26
  have key : ∀ i v, i < 26 → hcell h ⟨i, 0, none⟩ = some v → hcell h' ⟨i, 0, none⟩ = some v := by
    intro i v hi h1
    rw [hcell_mk, f.same i (by omega) (by omega), ← hcell_mk]
    exact h1
  refine ⟨h26, fun i hi h10 => ⟨key i _ (by omega) (g.s i hi h10).1, ?_⟩, g.inj, key 10 _ (by omega) g.t, ?_⟩
  · obtain ⟨a, e1, e2, c, t, e3⟩ := (g.s i hi h10).2
    exact ⟨a, e1, e2, c, t, (f.same _ (by omega) (by omega)).trans e3⟩
  · obtain ⟨m, hm⟩ := g.m
    exact ⟨m, key 22 _ (by omega) hm⟩
/-- the reader has gone on -/
theorem Cx.on {h' : Heap} {p' op' gr' : Nat} (c : Cx S n h r bv l p ext op gr) (f : Fm n r h h') (hr : Rdr h' r bv p' ext op' gr') (hp : p' ≤ l.length) (ho : op' ≤ gr') (hg : gr' ≤ 9) : Cx S n h' r bv l p' ext op' gr' :=
  ⟨hr, c.by_.frame fun b o k hv => f.same b (c.ne b o _ k hv).2 (c.ne b o _ k hv).1, c.ne, hp, c.len, c.gl.fm f c.n22 c.r22, c.r22, c.n22, Nat.le_trans c.nle f.size, ho, hg⟩
/-- the reader has not been touched -/
theorem Cx.still {h' : Heap} (c : Cx S n h r bv l p ext op gr) (f : Fm n r h h') (hr : h'[r]? = h[r]?) : Cx S n h' r bv l p ext op gr :=
  c.on f (hr.trans c.rd) c.le c.opg c.g9
theorem Cx.more {m : Nat} (c : Cx S n h r bv l p ext op gr) (h1 : n ≤ m) (h2 : m ≤ h.size) : Cx S m h r bv l p ext op gr :=
  ⟨c.rd, c.by_, fun b o k d hv => ⟨(c.ne b o k d hv).1, Nat.lt_of_lt_of_le (c.ne b o k d hv).2 h1⟩, c.le, c.len, c.gl, c.r22, Nat.le_trans c.n22 h1, h2, c.opg, c.g9⟩
theorem Cx.rlt (c : Cx S n h r bv l p ext op gr) : r < h.size := at_lt c.rd
theorem Cx.al {h' : Heap} {o : Obj} (c : Cx S n h r bv l p ext op gr) (a : Al h h' o) : Cx S n h' r bv l p ext op gr :=
  c.still (Fm.al a c.nle) (a.old _ c.rlt)
theorem Cx.upd {h' : Heap} {o : Obj} {b : Nat} (c : Cx S n h r bv l p ext op gr) (u : Upd h h' b o) (hb : n ≤ b) (hr : b ≠ r) : Cx S n h' r bv l p ext op gr :=
  c.still (Fm.upd u (.inl hb)) (u.other _ (Ne.symm hr))

theorem pLoad_one {P : Program} {T : TypeId} {a : Addr} {v : Value} {k : Value → Prop} (hT : aggN P T = some none) (hc : hcell h a = some v) : pLoad P T (.pointer (some a)) h k = k v := by
  simp [pLoad, hT, hc]
theorem Cx.ld0 {k : Value → Prop} (c : Cx S n h r bv l p ext op gr) : pLoad Tryz.prog 29 (.pointer (some ⟨r, 0, none⟩)) h k = k bv := pLoad_one Tryz.agg29 (by rw [hcell_of c.rd]; rfl)
theorem Cx.ld1 {k : Value → Prop} (c : Cx S n h r bv l p ext op gr) : pLoad Tryz.prog 3 (.pointer (some ⟨r, 1, none⟩)) h k = k (.int .i64 p) := pLoad_one Tryz.agg3 (by rw [hcell_of c.rd]; rfl)
theorem Cx.ld2 {k : Value → Prop} (c : Cx S n h r bv l p ext op gr) : pLoad Tryz.prog 4 (.pointer (some ⟨r, 2, none⟩)) h k = k (.bool ext) := pLoad_one Tryz.agg4 (by rw [hcell_of c.rd]; rfl)
theorem Cx.ld3 {k : Value → Prop} (c : Cx S n h r bv l p ext op gr) : pLoad Tryz.prog 3 (.pointer (some ⟨r, 3, none⟩)) h k = k (.int .i64 op) := pLoad_one Tryz.agg3 (by rw [hcell_of c.rd]; rfl)
theorem Cx.ld4 {k : Value → Prop} (c : Cx S n h r bv l p ext op gr) : pLoad Tryz.prog 3 (.pointer (some ⟨r, 4, none⟩)) h k = k (.int .i64 gr) := pLoad_one Tryz.agg3 (by rw [hcell_of c.rd]; rfl)

theorem lang_spec (c : Cx S n h r bv l p ext op gr) (hk : R (.int .i64 (if ext then 4 else 3)) h) : CallsH Tryz.prog 28 #[ptr r] h R E := by
  refine C28 ?_
  unfold S28
  simp only [boolV_bool, bcase_true, bcase_false, need, reads_nil, Tryz.fa57_2, addr_add, pLoad, Tryz.agg4, hcell_of c.rd, hcell_mk, List.getElem?_toArray, List.getElem?_cons_zero, List.getElem?_cons_succ, Option.some.injEq, exists_eq_left', Nat.reduceAdd, Nat.zero_add, Option.isSome_none, Bool.false_eq_true, if_false]
  cases ext <;> simpa using hk
theorem done_spec (c : Cx S n h r bv l p ext op gr) (hk : R (.bool (decide (l.length ≤ p))) h) : CallsH Tryz.prog 57 #[ptr r] h R E := by
  refine C57 ?_
  unfold S57
  simp only [boolV_bool, bcase_true, bcase_false, need, reads_nil, Tryz.fa57_1, addr_add, pLoad, Tryz.agg3, Tryz.fa57_0, Tryz.agg29, reads_ge, hcell_of c.rd, reads_blen c.by_ Tryz.underlying29, hcell_mk, List.getElem?_toArray, List.getElem?_cons_zero, List.getElem?_cons_succ, Option.some.injEq, exists_eq_left', Nat.reduceAdd, Nat.zero_add, Option.isSome_none, Bool.false_eq_true, if_false]
  simpa using hk

def isM (l : List UInt8) (s : List UInt8) (p : Nat) : Bool := s.isPrefixOf (l.drop p)
theorem isM_le {l s : List UInt8} {p : Nat} (hp : p ≤ l.length) (h : isM l s p = true) : p + s.length ≤ l.length :=
  Nat.not_lt.1 fun hl => by rw [isM, pre_long (by omega) hp] at h; cases h
theorem is_spec {s : List UInt8} (c : Cx S n h r bv l p ext op gr) (hs : s.length ≤ 4294967296) (hk : R (.bool (isM l s p)) h) : CallsH Tryz.prog 81 #[ptr r, str s] h R E := by
  refine C81 ?_
  unfold S81
  have hp := c.le
  have hl := c.len
  simp only [boolV_bool, bcase_true, bcase_false, need, reads_nil, Tryz.fa57_1, addr_add, pLoad, Tryz.agg3, reads_add, Tryz.fa57_0, Tryz.agg29, reads_le, reads_seq, reads_pick, hcell_of c.rd, reads_blen c.by_ Tryz.underlying29, reads_slen Tryz.underlying9, hcell_mk, List.getElem?_toArray, List.getElem?_cons_zero, List.getElem?_cons_succ, Option.some.injEq, exists_eq_left', Nat.reduceAdd, Nat.zero_add, Option.isSome_none, Bool.false_eq_true, if_false]
  rw [wrap_nn _ _ (by omega), dec_nn_le]
  refine bcase_of (fun hc => ?_) (fun hc => ?_)
  · have hc := of_decide_eq_true hc
    refine reads_bslice c.by_ Tryz.underlying29 Tryz.size5 (by omega) hc fun u hu => ?_
    rw [reads_bstring hu Tryz.underlying29 Tryz.underlying5 Tryz.underlying9, reads_seq]
    rw [← pre_drop hc]
    exact hk
  · rw [isM, pre_long (of_decide_eq_false hc) hp] at hk
    exact hk

/-- the place is set -/
theorem Cx.at_ {h' : Heap} {p' : Nat} (c : Cx S n h r bv l p ext op gr) (u : Upd h h' r (.cells #[bv, .int .i64 p', .bool ext, .int .i64 op, .int .i64 gr] 57 (0, 0))) (hp : p' ≤ l.length) :
    Fm h.size r h h' ∧ Cx S n h' r bv l p' ext op gr :=
  ⟨Fm.upd u (.inr rfl), c.on (Fm.upd u (.inr rfl)) u.same hp c.opg c.g9⟩
theorem take_spec {s : List UInt8} (c : Cx S n h r bv l p ext op gr) (hs : s.length ≤ 4294967296)
    (hy : isM l s p = true → ∀ h', Fm h.size r h h' → Cx S n h' r bv l (p + s.length) ext op gr → R (.bool true) h') (hn : isM l s p = false → R (.bool false) h) : CallsH Tryz.prog 79 #[ptr r, str s] h R E := by
  refine C79 ?_
  unfold S79
  refine is_spec c hs ?_
  have hp := c.le
  have hl := c.len
  simp only [boolV_bool, bcase_true, bcase_false, need, reads_nil, Tryz.fa57_1, addr_add, pLoad, Tryz.agg3, reads_add, Tryz.size3, hcell_of c.rd, reads_slen Tryz.underlying9, hcell_mk, List.getElem?_toArray, List.getElem?_cons_zero, List.getElem?_cons_succ, Option.some.injEq, exists_eq_left', Nat.reduceAdd, Nat.zero_add, Option.isSome_none, Bool.false_eq_true, if_false]
  refine bcase_of (fun hc => ?_) (fun hc => ?_)
  · have hpl := isM_le hp hc
    rw [wrap_nn _ _ (by omega)]
    refine store1 c.rd Tryz.size3 rfl (by simp) fun h' hu => ?_
    rw [hc]
    obtain ⟨f, c'⟩ := c.at_ hu hpl
    exact hy hc h' f c'
  · rw [hc]; exact hn hc

def timesM (l : List UInt8) (p : Nat) : Bool := isM l [42] p || isM l [43] p || isM l [63] p || isM l [123] p
theorem times_spec (c : Cx S n h r bv l p ext op gr) (hk : R (.bool (timesM l p)) h) : CallsH Tryz.prog 117 #[ptr r] h R E := by
  refine C117 ?_
  unfold S117
  unfold timesM at hk
  refine is_spec c (by simp) ?_
  refine bcase_of (fun hc => ?_) (fun hc => ?_)
  · simpa [hc] using hk
  refine is_spec c (by simp) ?_
  refine bcase_of (fun hc2 => ?_) (fun hc2 => ?_)
  · simpa [hc, hc2] using hk
  refine is_spec c (by simp) ?_
  refine bcase_of (fun hc3 => ?_) (fun hc3 => ?_)
  · simpa [hc, hc2, hc3] using hk
  refine is_spec c (by simp) ?_
  simpa [hc, hc2, hc3] using hk

/-! ### Giving up -/
def codeAt (code : Nat) : Nat := if code ≤ 10 then code - 1 else code
def IsErr (S : Glb) (h : Heap) (n : Nat) (lang code pos : Nat) (v : Value) : Prop :=
  ∃ a b, n ≤ a ∧ n ≤ b ∧ v = .iface 81 (ptr a) ∧ h[a]? = some (.cells #[.iface 77 (ptr b), .int .i64 lang] 84 (0, 0)) ∧ h[b]? = some (.cells #[S.v (codeAt code), .int .i64 pos] 80 (0, 0))
def Fails (S : Glb) (h : Heap) (n : Nat) (ext : Bool) (code pos : Nat) (c : List PanicEntry) : Prop :=
  ∃ v, IsErr S h n (if ext then 4 else 3) code pos v ∧ c = [{ v := .iface 62 (.agg #[v]), recovered := false }]

theorem of27_spec {code : Nat} (g : Gl S h) (h1 : 1 ≤ code) (h2 : code ≤ 10) (hk : R (S.v (codeAt code)) h) : CallsH Tryz.prog 27 #[.int .i64 code] h R E := by
  refine C27 ?_
  unfold S27
  have hg : ∀ i, i < 22 → i ≠ 10 → hcell h ⟨i, 0, none⟩ = some (S.v i) := fun i a b => (g.s i a b).1
  rcases (by omega : code = 1 ∨ code = 2 ∨ code = 3 ∨ code = 4 ∨ code = 5 ∨ code = 6 ∨ code = 7 ∨ code = 8 ∨ code = 9 ∨ code = 10) with rfl | rfl | rfl | rfl | rfl | rfl | rfl | rfl | rfl | rfl <;>
  · simp only [boolV_bool, bcase_true, bcase_false, need, reads_eq, pLoad, Tryz.agg26, reads_eq]
    simp [hg, bcase]
    exact hk

theorem fail_spec {code pos : Nat} (c : Cx S n h r bv l p ext op gr) (h1 : 1 ≤ code) (h2 : code ≤ 10) (he : ∀ c h', Fails S h' h.size ext code pos c → Fm h.size r h h' → E c h') :
    CallsH Tryz.prog 58 #[ptr r, .int .i64 code, .int .i64 pos] h R E := by
  refine C58 ?_
  unfold S58
  refine of27_spec c.gl h1 h2 ?_
  obtain ⟨x, hS, _⟩ := (c.gl.s (codeAt code) (by unfold codeAt; split <;> omega) (by unfold codeAt; split <;> omega)).2
  refine C26 ?_
  unfold S26
  rw [hS]
  simp only [boolV_bool, bcase_true, bcase_false, need, Tryz.eql26_s, Tryz.eql26_n, Tryz.bd80_0_1]
  refine new_rule fun h1 a1 => ?_
  have c1 := c.al a1
  simp only [reads_mkiface Tryz.underlying77 (by simp)]
  refine lang_spec c1 ?_
  refine C25 ?_
  unfold S25
  have e : (Value.int IntKind.i64 (if ext = true then 4 else 3)) = .int .i64 ((if ext = true then 4 else 3 : Nat) : Int) := by cases ext <;> rfl
  rw [e]
  simp only [boolV_bool, bcase_true, bcase_false, need, Tryz.eql26_s, Tryz.eql26_n, Tryz.bd84_0_1]
  refine new_rule fun h2 a2 => ?_
  simp only [reads_mkiface Tryz.underlying81 (by simp), boolV_bool, bcase_true, bcase_false, need, Tryz.bd62_0, reads_mkiface Tryz.underlying62 (by simp)]
  refine runs_panic rfl (he _ _ ⟨_, ⟨h1.size, h.size, by rw [a1.size]; omega, Nat.le_refl _, rfl, a2.at_, ?_⟩, rfl⟩ ((Fm.al a1 (Nat.le_refl _)).trans (Fm.al a2 (by rw [a1.size]; omega))))
  rw [a2.old _ (by rw [a1.size]; omega), hS]
  exact a1.at_
end Rt
end Go.Proofs
