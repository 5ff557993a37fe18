/- A part of the proofs over this seat: Brk2. -/
import Derived.Test.YtlgflejdbgoinaaGreatDoorCls
set_option linter.unusedVariables false
set_option linter.unusedSimpArgs false
set_option maxRecDepth 100000
namespace Go.Proofs
open Go.Vcg Go.Extern
namespace Rt
attribute [local congr] Reads.congr ReadsS.congr pLoad.congr pLoadS.congr pStore.congr Runs.congr CallsH.congr bcase.congr boolV.congr Stable.congr pAlloc.congr
variable {S : Glb} {n : Nat} {h : Heap} {r : Nat} {bv : Value} {l : List UInt8} {p lang : Nat} {R : Value → Heap → Prop} {E : List PanicEntry → Heap → Prop}

/-! ### Bracket expressions -/
def isB (l : List UInt8) (p : Nat) (x : UInt8) : Bool := decide (l[p]? = some x)
abbrev ItemR := Bool × UInt8 × W4 × Nat
def itemS (lang : Nat) (l : List UInt8) (p : Nat) : Res ItemR :=
  if isB l p 91 && (isB l (p + 1) 46 || isB l (p + 1) 61) then .bad 8 p
  else if isB l p 91 && isB l (p + 1) 58 then
    match classM (Go.Lib.cut (l.drop (p + 2)) [58, 93]).1 with
    | some s => if (Go.Lib.cut (l.drop (p + 2)) [58, 93]).2.2 then .ok (false, 0, s, p + (Go.Lib.cut (l.drop (p + 2)) [58, 93]).1.length + 4) else .bad 8 p
    | none => .bad 8 p
  else if isB l p 92 && decide (lang = 2) then
    (match l[p + 1]? with | some c => .ok (true, c, setOf [c], p + 2) | none => .bad 8 l.length)
  else .ok (true, (l[p]?).getD 0, setOf [(l[p]?).getD 0], p + 1)
def rangedS (lang : Nat) (l : List UInt8) (frm : Nat) (x : ItemR) : Res (W4 × Nat) :=
  if !x.1 || !isB l x.2.2.2 45 || isB l (x.2.2.2 + 1) 93 || decide (l.length ≤ x.2.2.2 + 1) then .ok (x.2.2.1, x.2.2.2)
  else match itemS lang l (x.2.2.2 + 1) with
    | .ok y => if !y.1 then .bad 8 (x.2.2.2 + 1) else if y.2.1 < x.2.1 then .bad 7 frm else .ok (rangeW x.2.1.toNat y.2.1.toNat, y.2.2.2)
    | .bad a b => .bad a b
    | .out => .out
def readL (lang : Nat) (l : List UInt8) : Nat → Bool → W4 → Nat → Res (W4 × Nat)
  | 0, _, _, _ => .out
  | k + 1, first, s, p =>
    if l.length ≤ p then .bad 8 l.length
    else if !first && isB l p 93 then .ok (s, p + 1)
    else match itemS lang l p with
      | .ok x => (match rangedS lang l p x with
        | .ok (t, p') => readL lang l k false (unionM [s, t]) p'
        | .bad a b => .bad a b
        | .out => .out)
      | .bad a b => .bad a b
      | .out => .out
def turnedS (lang : Nat) (l : List UInt8) (p : Nat) : Bool := isB l p 94 || (isB l p 33 && decide (lang = 2))
def bracketS (lang : Nat) (l : List UInt8) (p : Nat) : Res (W4 × Nat) :=
  match readL lang l (l.length + 1) true .zero (if turnedS lang l p then p + 1 else p) with
  | .ok (s, p') => .ok (if turnedS lang l p then s.not else s, p')
  | x => x

theorem isB_lt {x : UInt8} (h : isB l p x = true) : p < l.length := by
  unfold isB at h
  have := of_decide_eq_true h
  exact (List.getElem?_eq_some_iff.1 this).1
structure Bx (S : Glb) (n : Nat) (h : Heap) (r : Nat) (bv : Value) (l : List UInt8) (p lang : Nat) : Prop where
  rd : h[r]? = some (.cells #[bv, .int .i64 p, .int .i64 lang] 168 (0, 0))
  by_ : IsBytes h bv l
  ne : ∀ b o m c, bv = .slice (some ⟨b, o, none⟩) m c → b ≠ r ∧ b < n
  le : p ≤ l.length
  len : l.length ≤ 65536
  gl : Gl S h
  rN : S.N ≤ r
  nN : S.N ≤ n
  nle : n ≤ h.size
theorem Bx.on {h' : Heap} {p' : Nat} (c : Bx S n h r bv l p lang) (f : Fm n r h h') (hr : h'[r]? = some (.cells #[bv, .int .i64 p', .int .i64 lang] 168 (0, 0))) (hp : p' ≤ l.length) : Bx S n h' r bv l p' lang :=
  ⟨hr, c.by_.frame fun b o k hv => f.same b (c.ne b o _ k hv).2 (c.ne b o _ k hv).1, c.ne, hp, c.len, c.gl.fm f c.nN c.rN, c.rN, c.nN, Nat.le_trans c.nle f.size⟩
theorem Bx.still {h' : Heap} (c : Bx S n h r bv l p lang) (f : Fm h.size h.size h h') : Bx S n h' r bv l p lang :=
  c.on ((Fm.lift f c.nle c.nle)) ((f.same r (at_lt c.rd) (by have := at_lt c.rd; omega)).trans c.rd) c.le
theorem Bx.upd {h' : Heap} {o : Obj} {b : Nat} (c : Bx S n h r bv l p lang) (u : Upd h h' b o) (hb : n ≤ b) (hr : b ≠ r) : Bx S n h' r bv l p lang :=
  c.on (Fm.upd u (.inl hb)) ((u.other r (Ne.symm hr)).trans c.rd) c.le
theorem Bx.al {h' : Heap} {o : Obj} (c : Bx S n h r bv l p lang) (a : Al h h' o) : Bx S n h' r bv l p lang := c.still (Fm.al a (Nat.le_refl _))
theorem Bx.ld0 {k : Value → Prop} (c : Bx S n h r bv l p lang) : pLoad Tryz.prog 115 (.pointer (some ⟨r, 0, none⟩)) h k = k bv := pLoad_one Tryz.agg115 (by rw [hcell_of c.rd]; rfl)
theorem Bx.ld1 {k : Value → Prop} (c : Bx S n h r bv l p lang) : pLoad Tryz.prog 3 (.pointer (some ⟨r, 1, none⟩)) h k = k (.int .i64 p) := pLoad_one Tryz.agg3 (by rw [hcell_of c.rd]; rfl)
theorem Bx.ld2 {k : Value → Prop} (c : Bx S n h r bv l p lang) : pLoad Tryz.prog 3 (.pointer (some ⟨r, 2, none⟩)) h k = k (.int .i64 lang) := pLoad_one Tryz.agg3 (by rw [hcell_of c.rd]; rfl)
/-- the reader goes to another place -/
theorem Bx.goto {K : Heap → Prop} {q : Nat} (c : Bx S n h r bv l p lang) (hq : q ≤ l.length) (hk : ∀ h', Fm h.size r h h' → h'.size = h.size → Bx S n h' r bv l q lang → (∀ k, k ≠ r → h'[k]? = h[k]?) → K h') : pStore Tryz.prog 3 (.pointer (some ⟨r, 1, none⟩)) (.int .i64 q) h K := by
  refine store1 c.rd Tryz.size3 rfl (by simp) fun h' u => ?_
  have e : h'[r]? = some (.cells #[bv, .int .i64 q, .int .i64 lang] 168 (0, 0)) := u.same
  exact hk h' (Fm.upd u (.inr rfl)) u.size (c.on (Fm.upd u (.inr rfl)) e hq) u.other

theorem isB_spec {k : Nat} {x : UInt8} (c : Bx S n h r bv l p lang) (hk1 : k ≤ 10) (hk : R (.bool (isB l (p + k) x)) h) : CallsH Tryz.prog 101 #[ptr r, .int .i64 k, .int .u8 x.toNat] h R E := by
  have hl := c.len
  have hp := c.le
  refine C101 ?_
  unfold S101
  rw [reads_nil, Tryz.fa168_1, addr_add, Nat.zero_add, c.ld1, reads_add, wrap_nn _ _ (by omega), reads_nil, Tryz.fa168_0, addr_add, c.ld0, reads_blen c.by_ Tryz.underlying115, reads_lt, dec_nn_lt, boolV_bool]
  refine bcase_of (fun hc => ?_) (fun hc => ?_)
  · have hlt : p + k < l.length := of_decide_eq_true hc
    rw [reads_nil, Tryz.fa168_0, addr_add, c.ld0, reads_nil, Tryz.fa168_1, addr_add, Nat.zero_add, c.ld1, reads_add, wrap_nn _ _ (by omega)]
    refine idx_load c.by_ Tryz.underlying115 Tryz.size5 Tryz.agg5 hlt ?_
    rw [reads_eq, dec_u8_eq]
    have e : isB l (p + k) x = decide (l[p + k] = x) := by
      unfold isB
      rw [List.getElem?_eq_getElem hlt]
      exact decide_eq_decide.2 (by simp)
    rw [e] at hk
    exact hk
  · have hge : l.length ≤ p + k := by have := of_decide_eq_false hc; omega
    have e : isB l (p + k) x = false := by
      unfold isB
      rw [List.getElem?_eq_none hge]
      rfl
    rw [e] at hk
    exact hk
theorem failB_spec {code pos : Nat} (c : Bx S n h r bv l p lang) (h1 : 1 ≤ code) (h2 : code ≤ 10) (hk : ∀ h' e, Fm h.size h.size h h' → IsErr S h' h.size lang code pos e → R e h') : CallsH Tryz.prog 93 #[ptr r, .int .i64 code, .int .i64 pos] h R E := by
  have hr := at_lt c.rd
  refine C93 ?_
  unfold S93
  refine ⟨fun h' => h'[r]? = some (.cells #[bv, .int .i64 p, .int .i64 lang] 168 (0, 0)), c.rd, ?_⟩
  refine readsS_lift (fun h k => reads_nil) ?_
  refine readsS_lift (fun h k => Tryz.fa168_2) ?_
  rw [addr_add, Nat.zero_add]
  refine pLoadS_one Tryz.agg3 (v := .int .i64 lang) (fun h' hh => by rw [hcell_of hh]; rfl) ?_
  refine ⟨of27_spec c.gl h1 h2 ?_, trivial⟩
  obtain ⟨_, x, hx, _⟩ := c.gl.s (codeAt code) (by unfold codeAt; omega) (by unfold codeAt; omega)
  rw [hx]
  refine ⟨c.rd, ?_, trivial⟩
  refine at_spec fun h3 a3 => ?_
  have s3 := a3.size
  refine ⟨(a3.old r hr).trans c.rd, ?_, trivial⟩
  refine in_spec fun h4 a4 => ?_
  have s4 := a4.size
  refine ⟨trivial, ?_⟩
  refine hk h4 _ ((Fm.al a3 (Nat.le_refl _)).trans (Fm.al a4 (by omega))) ⟨h3.size, h.size, by omega, by omega, rfl, a4.at_, ?_⟩
  rw [hx]
  exact (a4.old _ (by omega)).trans a3.at_

theorem reads_bfrom {P : Program} {t e : TypeId} {v : Value} {l : List UInt8} {i : Nat} {k : Value → Prop} (hb : IsBytes h v l) (ht : P.underlying t = some (.slice e)) (hs : sizeT P e = some 1) (hi : i ≤ l.length)
    (hk : ∀ u, IsBytes h u (l.drop i) → k u) : Reads P (Instr.sliceAt t v (some (.int .i64 i)) none none) h k := by
  have hsz := size_run hs
  rcases hb with ⟨rfl, rfl⟩ | ⟨b, o, c, rfl, hc, hat⟩
  · have : i = 0 := by simpa using hi
    subst this
    refine ⟨.slice none 0 0, fun w _ => ?_, hk _ (.inl ⟨rfl, by simp⟩)⟩
    simp [Instr.sliceAt, Instr.slice, Instr.sliceBounds, Instr.sliceBound, asIntOf, Go.underlying, program, Sem.run, ht, hsz]
  · refine ⟨.slice (some (if c = i then ⟨b, o, none⟩ else (⟨b, o, none⟩ : Addr).add (i * 1))) (l.length - i) (c - i), fun w _ => ?_, hk _ ?_⟩
    · have h3 : l.length ≤ c := by omega
      simp [Instr.sliceAt, Instr.slice, Instr.sliceBounds, Instr.sliceBound, asIntOf, Go.underlying, program, Sem.run, ht, hsz, h3, hi]
      split <;> rfl
    · rw [Nat.mul_one, addr_add]
      by_cases hci : c = i
      · have hlen : l.drop i = [] := List.drop_eq_nil_of_le (by omega)
        rw [if_pos hci, hlen]
        refine .inr ⟨b, o, c - i, by simp; omega, by simp, fun k hk => by simp at hk⟩
      · rw [if_neg hci]
        refine .inr ⟨b, o + i, c - i, by simp, by simp; omega, fun k hk => ?_⟩
        have hk' : i + k < l.length := by simp at hk; omega
        have := hat (i + k) hk'
        rw [← Nat.add_assoc] at this
        simpa using this

theorem classM_ok {l : List UInt8} {s : W4} (h : classM l = some s) : s.ok := by
  have og : cGraph.ok := rangeW_ok _ _
  have od : cDigit.ok := rangeW_ok _ _
  have ou : cUpper.ok := rangeW_ok _ _
  have ow : cLower.ok := rangeW_ok _ _
  have key : ∀ vs : List W4, (∀ s ∈ vs, s.ok) → (unionM vs).ok := fun vs => unionM_ok
  unfold classM at h
  by_cases e0 : l = [97, 108, 110, 117, 109]
  · rw [if_pos e0] at h
    have h := Option.some.inj h
    subst h
    exact key _ (by simp [od, ou, ow])
  rw [if_neg e0] at h
  by_cases e1 : l = [97, 108, 112, 104, 97]
  · rw [if_pos e1] at h
    have h := Option.some.inj h
    subst h
    exact key _ (by simp [W4.zero_ok, ou, ow])
  rw [if_neg e1] at h
  by_cases e2 : l = [100, 105, 103, 105, 116]
  · rw [if_pos e2] at h
    have h := Option.some.inj h
    subst h
    exact od
  rw [if_neg e2] at h
  by_cases e3 : l = [117, 112, 112, 101, 114]
  · rw [if_pos e3] at h
    have h := Option.some.inj h
    subst h
    exact ou
  rw [if_neg e3] at h
  by_cases e4 : l = [108, 111, 119, 101, 114]
  · rw [if_pos e4] at h
    have h := Option.some.inj h
    subst h
    exact ow
  rw [if_neg e4] at h
  by_cases e5 : l = [115, 112, 97, 99, 101]
  · rw [if_pos e5] at h
    have h := Option.some.inj h
    subst h
    exact key _ (by simp [rangeW_ok, setOf_ok])
  rw [if_neg e5] at h
  by_cases e6 : l = [98, 108, 97, 110, 107]
  · rw [if_pos e6] at h
    have h := Option.some.inj h
    subst h
    exact key _ (by simp [W4.zero_ok, setOf_ok])
  rw [if_neg e6] at h
  by_cases e7 : l = [112, 114, 105, 110, 116]
  · rw [if_pos e7] at h
    have h := Option.some.inj h
    subst h
    exact key _ (by simp [og, setOf_ok])
  rw [if_neg e7] at h
  by_cases e8 : l = [103, 114, 97, 112, 104]
  · rw [if_pos e8] at h
    have h := Option.some.inj h
    subst h
    exact key _ (by simp [W4.zero_ok, og])
  rw [if_neg e8] at h
  by_cases e9 : l = [112, 117, 110, 99, 116]
  · rw [if_pos e9] at h
    have h := Option.some.inj h
    subst h
    exact W4.not_ok _
  rw [if_neg e9] at h
  by_cases e10 : l = [99, 110, 116, 114, 108]
  · rw [if_pos e10] at h
    have h := Option.some.inj h
    subst h
    exact key _ (by simp [rangeW_ok, setOf_ok])
  rw [if_neg e10] at h
  by_cases e11 : l = [120, 100, 105, 103, 105, 116]
  · rw [if_pos e11] at h
    have h := Option.some.inj h
    subst h
    exact key _ (by simp [od, rangeW_ok])
  rw [if_neg e11] at h
  cases h
theorem itemS_ok {x : ItemR} (h : itemS lang l p = .ok x) : x.2.2.1.ok := by
  unfold itemS at h
  split at h
  · cases h
  split at h
  · split at h
    · rename_i s hs
      split at h
      · cases h; exact classM_ok hs
      · cases h
    · cases h
  split at h
  · split at h
    · cases h; exact setOf_ok _
    · cases h
  · cases h; exact setOf_ok _
theorem cut_room {s sep : List UInt8} (h : (Go.Lib.cut s sep).2.2 = true) : (Go.Lib.cut s sep).1.length + sep.length ≤ s.length := by
  unfold Go.Lib.cut at h ⊢
  split at h
  · rename_i hi
    rw [if_pos hi]
    have := Go.Lib.index_room s sep hi
    simp only [List.length_take]
    omega
  · cases h
theorem itemS_le {x : ItemR} (hp : p < l.length) (h : itemS lang l p = .ok x) : p < x.2.2.2 ∧ x.2.2.2 ≤ l.length := by
  unfold itemS at h
  split at h
  · cases h
  split at h
  · split at h
    · split at h
      · rename_i hc
        cases h
        have := cut_room hc
        simp only [List.length_drop, List.length_cons, List.length_nil] at this
        have : p + 2 ≤ l.length := by
          rename_i hb _ _ _
          have := hb
          simp only [Bool.and_eq_true] at this
          have := isB_lt this.2
          omega
        constructor <;> simp only <;> omega
      · cases h
    · cases h
  split at h
  · split at h
    · rename_i c hc
      cases h
      have := (List.getElem?_eq_some_iff.1 hc).1
      constructor <;> simp only <;> omega
    · cases h
  · cases h
    constructor <;> simp only <;> omega
def itemV (one : Bool) (b : UInt8) (s : W4) (frm : Nat) : List Value := [.bool one, .int .u8 b.toNat, .int .u64 s.a, .int .u64 s.b, .int .u64 s.c, .int .u64 s.d, .int .i64 frm]
theorem itemV_flat (one : Bool) (b : UInt8) (s : W4) (frm : Nat) : ∀ v ∈ (itemV one b s frm).toArray.toList, flat v = true := by
  intro v hv
  simp only [itemV, List.mem_cons, List.not_mem_nil, or_false] at hv
  rcases hv with rfl | rfl | rfl | rfl | rfl | rfl | rfl <;> rfl
def OwesI (S : Glb) (n : Nat) (h : Heap) (r : Nat) (bv : Value) (l : List UInt8) (lang : Nat) (m : Res ItemR) (frm : Nat) (R : Value → Heap → Prop) : Prop :=
  match m with
  | .out => False
  | .bad code pos => ∀ h' one b s f e, Fm h.size r h h' → IsErr S h' h.size lang code pos e → R (.tuple #[.agg (itemV one b s f).toArray, e]) h'
  | .ok x => ∀ h', Fm h.size r h h' → Bx S n h' r bv l x.2.2.2 lang → R (.tuple #[.agg (itemV x.1 x.2.1 x.2.2.1 frm).toArray, .nilIface]) h'
theorem item_spec8 (c : Bx S n h r bv l p lang) (hp : p < l.length) (hk : OwesI S n h r bv l lang (itemS lang l p) p R) : CallsH Tryz.prog 102 #[ptr r] h R E := by
  have hr := at_lt c.rd
  have hl := c.len
  refine C102 ?_
  unfold S102
  refine alloc_rule Tryz.zero175 fun h1 a1 => ?_
  have s1 := a1.size
  have c1 := c.al a1
  rw [reads_nil, Tryz.fa168_1, addr_add, Nat.zero_add, c1.ld1, Tryz.bd175_0_3]
  refine alloc_rule Tryz.zero175 fun h2 a2 => ?_
  have s2 := a2.size
  have c2 := c1.al a2
  refine storeFull a2.at_ (xs := (itemV true 0 .zero p).toArray) Tryz.size175 rfl (itemV_flat _ _ _ _) fun h3 u3 => ?_
  have s3 := u3.size
  have c3 := c2.upd u3 (by have := c1.nle; omega) (by omega)
  have f3 : Fm h.size r h h3 := ((Fm.al a1 (Nat.le_refl _)).trans (Fm.al a2 (by omega))).trans (Fm.upd u3 (.inl (by omega)))
  have ret3 : h3[h.size]? = some (.cells (Value.agg #[.bool false, .int .u8 0, .int .u64 0, .int .u64 0, .int .u64 0, .int .u64 0, .int .i64 0]).cells 175 (0, 0)) := (u3.other _ (by omega)).trans ((a2.old _ (by omega)).trans a1.at_)
  have it3 : h3[h1.size]? = some (.cells (itemV true 0 .zero p).toArray 175 (0, 0)) := u3.same
  have ret_er : ∀ {pos : Nat} {h8 : Heap} {e : Value}, OwesI S n h r bv l lang (.bad 8 pos) p R → Fm h3.size h3.size h3 h8 → IsErr S h8 h3.size lang 8 pos e →
      pStore Tryz.prog 175 (.pointer (some ⟨h.size, 0, none⟩)) (.agg (itemV true 0 .zero p).toArray) h8 fun h9 => pLoad Tryz.prog 175 (.pointer (some ⟨h.size, 0, none⟩)) h9 fun r7 => R (.tuple #[r7, e]) h9 := by
    intro pos h8 e hm f8 he
    have s8 := f8.size
    refine storeFull ((f8.same _ (by omega) (by omega)).trans ret3) (xs := (itemV true 0 .zero p).toArray) Tryz.size175 rfl (itemV_flat _ _ _ _) fun h9 u9 => ?_
    have s9 := u9.size
    refine load_all u9.same Tryz.agg175 ?_
    refine hm h9 _ _ _ _ e (f3.trans ((Fm.lift f8 (by omega) (by omega)).trans (Fm.upd u9 (.inl (by omega))))) ?_
    exact (he.fm fun k _ hk => u9.other k (by omega)).less (by omega)
  have fin : ∀ {h8 : Heap} {one : Bool} {b : UInt8} {s : W4} {q : Nat}, OwesI S n h r bv l lang (.ok (one, b, s, q)) p R → Bx S n h8 r bv l q lang → Fm h.size r h h8 → h8[h.size]? = h3[h.size]? → h3.size ≤ h8.size →
      pStore Tryz.prog 175 (.pointer (some ⟨h.size, 0, none⟩)) (.agg (itemV one b s p).toArray) h8 fun h9 => pLoad Tryz.prog 175 (.pointer (some ⟨h.size, 0, none⟩)) h9 fun r7 => R (.tuple #[r7, .nilIface]) h9 := by
    intro h8 one b s q hm c8 f8 r8 s8
    refine storeFull (r8.trans ret3) (xs := (itemV one b s p).toArray) Tryz.size175 rfl (itemV_flat _ _ _ _) fun h9 u9 => ?_
    have s9 := u9.size
    refine load_all u9.same Tryz.agg175 ?_
    exact hm h9 (f8.trans (Fm.upd u9 (.inl (by omega)))) (c8.upd u9 (by have := c.nle; omega) (by omega))
  unfold itemS at hk
  refine Join0.intro (fun h' => ∃ q, Bx S n h' r bv l q lang ∧ q < l.length ∧ Fm h3.size r h3 h' ∧ h'[h1.size]? = some (.cells (itemV true 0 .zero p).toArray 175 (0, 0)) ∧ OwesI S n h r bv l lang (.ok (true, (l[q]?).getD 0, setOf [(l[q]?).getD 0], q + 1)) p R) ?_ ?_
  · refine Join1.intro (fun v h' => h' = h3 ∧ v = .bool (isB l p 91 && (isB l (p + 1) 46 || isB l (p + 1) 61))) ?_ ?_
    · refine isB_spec (k := 0) (x := 91) c3 (by omega) ?_
      rw [Nat.add_zero, boolV_bool]
      refine bcase_of (fun h91 => ?_) (fun h91 => ?_)
      · refine isB_spec (k := 1) (x := 46) c3 (by omega) ?_
        rw [boolV_bool]
        refine bcase_of (fun h46 => ⟨rfl, by rw [h91, h46]; rfl⟩) (fun h46 => ?_)
        refine isB_spec (k := 1) (x := 61) c3 (by omega) ⟨rfl, by rw [h91, h46]; rfl⟩
      · exact ⟨rfl, rfl, rfl, by rw [h91]; rfl⟩
    rintro v h4 ⟨rfl, rfl⟩
    rw [boolV_bool]
    refine bcase_of (fun hc => ?_) (fun hc => ?_)
    · rw [if_pos hc] at hk
      refine ⟨fun h' => h'[r]? = some (.cells #[bv, .int .i64 p, .int .i64 lang] 168 (0, 0)) ∧ h'[h1.size]? = some (.cells (itemV true 0 .zero p).toArray 175 (0, 0)), ⟨c3.rd, it3⟩, ?_⟩
      refine pLoadS_all (cs := (itemV true 0 .zero p).toArray) Tryz.agg175 (fun h' hh => hh.2) ?_
      refine readsS_lift (fun h k => reads_nil) ?_
      refine readsS_lift (fun h k => Tryz.fa168_1) ?_
      rw [addr_add, Nat.zero_add]
      refine pLoadS_one Tryz.agg3 (v := .int .i64 p) (fun h' hh => by rw [hcell_of hh.1]; rfl) ?_
      refine ⟨failB_spec (code := 8) c3 (by omega) (by omega) fun h8 e f8 he => ?_, trivial⟩
      refine ⟨⟨(f8.same _ (by omega) (by omega)).trans c3.rd, (f8.same _ (by omega) (by omega)).trans it3⟩, ?_, trivial⟩
      exact pStore_mono (fun h' x => ⟨trivial, x⟩) (ret_er hk f8 he)
    rw [if_neg (by simp [hc])] at hk
    refine Join1.intro (fun v h' => h' = h4 ∧ v = .bool (isB l p 91 && isB l (p + 1) 58)) ?_ ?_
    · refine isB_spec (k := 0) (x := 91) c3 (by omega) ?_
      rw [Nat.add_zero, boolV_bool]
      refine bcase_of (fun h91 => ?_) (fun h91 => ?_)
      · refine isB_spec (k := 1) (x := 58) c3 (by omega) ⟨rfl, by rw [h91]; rfl⟩
      · exact ⟨rfl, by rw [h91]; rfl⟩
    rintro v h5 ⟨rfl, rfl⟩
    rw [boolV_bool]
    refine bcase_of (fun hc2 => ?_) (fun hc2 => ?_)
    · rw [if_pos hc2] at hk
      have hp2 : p + 2 ≤ l.length := by
        simp only [Bool.and_eq_true] at hc2
        have := isB_lt hc2.2
        omega
      rw [reads_nil, Tryz.fa168_0, addr_add, c3.ld0, reads_nil, Tryz.fa168_1, addr_add, Nat.zero_add, c3.ld1, reads_add, wrap_n2 _ (by omega)]
      refine reads_bfrom c3.by_ Tryz.underlying115 Tryz.size5 hp2 fun u hu => ?_
      rw [reads_bstring hu Tryz.underlying115 Tryz.underlying5 Tryz.underlying9]
      refine ⟨cut_spec (sep := [58, 93]) c3.gl (by simp; omega) ?_, trivial⟩
      refine ⟨trivial, ?_⟩
      rw [reads_ext0, reads_ext1, reads_ext2]
      generalize hcut : Go.Lib.cut (l.drop (p + 2)) [58, 93] = cu at *
      obtain ⟨nm, rest, fd⟩ := cu
      simp only at hk ⊢
      have hroom : fd = true → nm.length + 2 ≤ l.length - (p + 2) := fun hfd => by
        have := cut_room (s := l.drop (p + 2)) (sep := [58, 93]) (by rw [hcut]; exact hfd)
        rw [hcut] at this
        simpa using this
      refine class_spec fun h6 f6 => ?_
      have s6 := f6.size
      have c6 := c3.still f6
      have it6 := (f6.same h1.size (by omega) (by omega)).trans it3
      have hcv : ∃ z okc, classV nm = .tuple #[.agg z.vals.toArray, .bool okc] ∧ (okc = true → classM nm = some z) ∧ (okc = false → classM nm = none) := by
        unfold classV
        cases hm : classM nm with
        | some z => exact ⟨z, true, rfl, fun _ => rfl, (fun e => absurd e (by decide))⟩
        | none => exact ⟨W4.zero, false, rfl, (fun e => absurd e (by decide)), fun _ => rfl⟩
      obtain ⟨z, okc, hz, hz1, hz2⟩ := hcv
      rw [hz, reads_ext0, reads_ext1]
      refine alloc_rule Tryz.zero146 fun h7 a7 => ?_
      have s7 := a7.size
      refine putSet (s := z) a7.at_ rfl fun h8 u8 => ?_
      have s8 := u8.size
      have f38 : Fm h5.size h5.size h5 h8 := (f6.trans (Fm.al a7 (by omega))).trans (Fm.upd u8 (.inl (by omega)))
      have c8 := c3.still f38
      have it8 := (f38.same h1.size (by omega) (by omega)).trans it3
      refine Join1.intro (fun v h' => h' = h8 ∧ v = .bool (!fd || !okc)) ?_ ?_
      · rw [reads_not, boolV_bool]
        refine bcase_of (fun hf => ⟨rfl, by simp only [hf, Bool.true_or]⟩) (fun hf => ?_)
        rw [reads_not]
        exact ⟨rfl, by simp only [hf, Bool.false_or]⟩
      rintro v h9 ⟨rfl, rfl⟩
      rw [boolV_bool]
      refine bcase_of (fun hb => ?_) (fun hb => ?_)
      · have hk : OwesI S n h r bv l lang (.bad 8 p) p R := by
          cases okc with
          | false => rw [hz2 rfl] at hk; exact hk
          | true =>
            rw [hz1 rfl] at hk
            have : fd = false := by simpa using hb
            subst this
            exact hk
        refine ⟨fun h' => h'[r]? = some (.cells #[bv, .int .i64 p, .int .i64 lang] 168 (0, 0)) ∧ h'[h1.size]? = some (.cells (itemV true 0 .zero p).toArray 175 (0, 0)), ⟨c8.rd, it8⟩, ?_⟩
        refine pLoadS_all (cs := (itemV true 0 .zero p).toArray) Tryz.agg175 (fun h' hh => hh.2) ?_
        refine readsS_lift (fun h k => reads_nil) ?_
        refine readsS_lift (fun h k => Tryz.fa168_1) ?_
        rw [addr_add, Nat.zero_add]
        refine pLoadS_one Tryz.agg3 (v := .int .i64 p) (fun h' hh => by rw [hcell_of hh.1]; rfl) ?_
        refine ⟨failB_spec (code := 8) c8 (by omega) (by omega) fun h10 e f10 he => ?_, trivial⟩
        refine ⟨⟨(f10.same _ (by omega) (by omega)).trans c8.rd, (f10.same _ (by omega) (by omega)).trans it8⟩, ?_, trivial⟩
        exact pStore_mono (fun h' x => ⟨trivial, x⟩) (ret_er hk (f38.trans (Fm.lift f10 (by omega) (by omega))) (he.less (by omega)))
      · have hb : fd = true ∧ okc = true := by simpa using hb
        obtain ⟨hfd, rfl⟩ := hb
        rw [hz1 rfl, hfd] at hk
        simp only [if_true] at hk
        have hrm := hroom hfd
        rw [reads_nil, Tryz.fa168_1, addr_add, Nat.zero_add, c8.ld1, reads_slen Tryz.underlying9, reads_add, wrapN (nm.length + 4 : Int) (nm.length + 4) (by omega) (by omega), reads_add, wrap_nn _ _ (by omega), reads_nil, Tryz.fa168_1, addr_add, Nat.zero_add]
        refine c8.goto (by omega) fun h10 f10 s10 c10 o10 => ?_
        refine getSet ((o10 _ (by omega)).trans u8.same) ?_
        rw [Tryz.fa175_3, addr_add, Nat.zero_add, pLoad_one (v := .int .i64 p) Tryz.agg3 (by rw [hcell_of ((o10 _ (by omega)).trans it8)]; rfl)]
        have e9 : ∀ k : Value → Prop, Reads Tryz.prog (Instr.build 175 #[(2, .agg z.vals.toArray), (3, .int .i64 p)]) h10 k = k (.agg (itemV false 0 z p).toArray) := fun k => Tryz.bd175_2_3
        rw [e9]
        exact fin hk c10 (f3.trans ((Fm.lift f38 (by omega) (by omega)).trans (f10.less (by omega)))) ((o10 _ (by omega)).trans (f38.same _ (by omega) (by omega))) (by omega)
    · rw [if_neg (by simp [hc2])] at hk
      refine Join1.intro (fun v h' => h' = h5 ∧ v = .bool (isB l p 92 && decide (lang = 2))) ?_ ?_
      · refine isB_spec (k := 0) (x := 92) c3 (by omega) ?_
        rw [Nat.add_zero, boolV_bool]
        refine bcase_of (fun h92 => ?_) (fun h92 => ?_)
        · rw [reads_nil, Tryz.fa168_2, addr_add, Nat.zero_add, c3.ld2, reads_eq, show (2 : Int) = ((2 : Nat) : Int) from rfl, dec_nn_eq]
          exact ⟨rfl, by rw [h92]; rfl⟩
        · exact ⟨rfl, by rw [h92]; rfl⟩
      rintro v h6 ⟨rfl, rfl⟩
      rw [boolV_bool]
      refine bcase_of (fun hc3 => ?_) (fun hc3 => ?_)
      · rw [if_pos hc3] at hk
        rw [reads_nil, Tryz.fa168_1, addr_add, Nat.zero_add, c3.ld1, reads_add, wrap_n1 _ (by omega), reads_nil, Tryz.fa168_1, addr_add, Nat.zero_add]
        refine c3.goto (by omega) fun h7 f7 s7 c7 o7 => ?_
        rw [reads_nil, Tryz.fa168_1, addr_add, Nat.zero_add, c7.ld1, reads_nil, Tryz.fa168_0, addr_add, c7.ld0, reads_blen c7.by_ Tryz.underlying115, reads_ge, dec_nn_le, boolV_bool]
        have it7 := (o7 h1.size (by omega)).trans it3
        refine bcase_of (fun hge => ?_) (fun hlt => ?_)
        · have hge := of_decide_eq_true hge
          rw [List.getElem?_eq_none hge] at hk
          refine ⟨fun h' => h'[r]? = some (.cells #[bv, .int .i64 (p + 1 : Nat), .int .i64 lang] 168 (0, 0)) ∧ h'[h1.size]? = some (.cells (itemV true 0 .zero p).toArray 175 (0, 0)) ∧ IsBytes h' bv l, ⟨c7.rd, it7, c7.by_⟩, ?_⟩
          refine pLoadS_all (cs := (itemV true 0 .zero p).toArray) Tryz.agg175 (fun h' hh => hh.2.1) ?_
          refine readsS_lift (fun h k => reads_nil) ?_
          refine readsS_lift (fun h k => Tryz.fa168_0) ?_
          rw [addr_add]
          refine pLoadS_one Tryz.agg115 (v := bv) (fun h' hh => by rw [hcell_of hh.1]; rfl) ?_
          refine readsS_of (v := .int .i64 l.length) (fun w hw => ?_) ?_
          · have := reads_blen (t := 115) (r := 3) hw.2.2 Tryz.underlying115 (k := fun v => v = .int .i64 l.length)
            obtain ⟨v, hv, rfl⟩ := (cast this.symm rfl : Reads Tryz.prog (builtinS .len #[115] 3 #[bv]) w.heap fun v => v = .int .i64 l.length)
            exact hv w rfl
          refine ⟨failB_spec (code := 8) c7 (by omega) (by omega) fun h10 e f10 he => ?_, trivial⟩
          have hb10 : IsBytes h10 bv l := (c7.still f10).by_
          refine ⟨⟨(f10.same _ (by omega) (by omega)).trans c7.rd, (f10.same _ (by omega) (by omega)).trans it7, hb10⟩, ?_, trivial⟩
          have s10 := f10.size
          refine pStore_mono (fun h' x => ⟨trivial, x⟩) ?_
          refine storeFull ((f10.same h.size (by omega) (by omega)).trans ((o7 h.size (by omega)).trans ret3)) (xs := (itemV true 0 .zero p).toArray) Tryz.size175 rfl (itemV_flat _ _ _ _) fun h9 u9 => ?_
          have s9 := u9.size
          refine load_all u9.same Tryz.agg175 ?_
          refine hk h9 _ _ _ _ e (f3.trans ((f7.less (by omega)).trans ((Fm.lift f10 (by omega) (by omega)).trans (Fm.upd u9 (.inl (by omega)))))) ?_
          exact (he.fm fun k _ hk => u9.other k (by omega)).less (by omega)
        · have hlt := of_decide_eq_false hlt
          have hlt : p + 1 < l.length := by omega
          rw [List.getElem?_eq_getElem hlt] at hk
          refine ⟨p + 1, c7, hlt, f7.less (by omega), it7, ?_⟩
          rw [List.getElem?_eq_getElem hlt]
          exact hk
      · rw [if_neg (by simp [hc3])] at hk
        exact ⟨p, c3, hp, Fm.refl .., it3, hk⟩
  · rintro h4 ⟨q, c4, hq, f4, it4, hk⟩
    rw [List.getElem?_eq_getElem hq] at hk
    have s4 := f4.size
    have hr4 := at_lt c4.rd
    rw [reads_nil, Tryz.fa168_0, addr_add, c4.ld0, reads_nil, Tryz.fa168_1, addr_add, Nat.zero_add, c4.ld1]
    refine idx_load c4.by_ Tryz.underlying115 Tryz.size5 Tryz.agg5 hq ?_
    rw [Tryz.fa175_1, addr_add, Nat.zero_add]
    refine ⟨?_, trivial⟩
    refine store1 it4 Tryz.size5 rfl (by simp [itemV]) fun h5 u5 => ?_
    have s5 := u5.size
    have c5 := c4.upd u5 (by have := c.nle; omega) (by omega)
    refine ⟨trivial, ?_⟩
    rw [reads_nil, Tryz.fa168_0, addr_add, c5.ld0, reads_nil, Tryz.fa168_1, addr_add, Nat.zero_add, c5.ld1, reads_nil, Tryz.fa168_1, addr_add, Nat.zero_add, c5.ld1, reads_add, wrap_n1 _ (by omega)]
    refine reads_bslice c5.by_ Tryz.underlying115 Tryz.size5 (by omega) (by omega) fun u hu => ?_
    have e1 : (l.take (q + 1)).drop q = [l[q]] := by
      rw [List.take_add_one, List.getElem?_eq_getElem hq, List.drop_append, List.drop_eq_nil_of_le (by simp; omega), List.length_take, Nat.min_eq_left (Nat.le_of_lt hq), Nat.sub_self]
      rfl
    rw [e1] at hu
    rw [reads_bstring hu Tryz.underlying115 Tryz.underlying5 Tryz.underlying9]
    refine ⟨of_spec (by simp) fun h6 f6 => ?_, trivial⟩
    have s6 := f6.size
    refine ⟨trivial, ?_⟩
    rw [Tryz.fa175_2, addr_add, Nat.zero_add]
    have c6 := c5.still f6
    have it6 : h6[h1.size]? = some (.cells (itemV true l[q] .zero p).toArray 175 (0, 0)) := (f6.same _ (by omega) (by omega)).trans u5.same
    refine ⟨?_, trivial⟩
    have hput := hputN_upd (b := h1.size) (t := 175) (setOf [l[q]]).vals 0 h6 _ 2 it6 (by simp [itemV, W4.vals]) (fun v hv => flat_vals (setOf [l[q]]) v (by simpa using hv))
    obtain ⟨h7, e7, u7⟩ := hput
    unfold pStore
    refine ⟨Tryz.size146, ?_⟩
    have e7' : hputN h6 ⟨h1.size, 2, none⟩ 0 (Value.agg (setOf [l[q]]).vals.toArray).cells.toList = some h7 := e7
    rw [e7']
    have it7 : h7[h1.size]? = some (.cells (itemV true l[q] (setOf [l[q]]) p).toArray 175 (0, 0)) := u7.same
    have s7 := u7.size
    have c7 := c6.upd u7 (by have := c.nle; omega) (by omega)
    refine ⟨trivial, ?_⟩
    rw [reads_nil, Tryz.fa168_1, addr_add, Nat.zero_add, c7.ld1, reads_add, wrap_n1 _ (by omega), reads_nil, Tryz.fa168_1, addr_add, Nat.zero_add]
    refine c7.goto (by omega) fun h8 f8 s8 c8 o8 => ?_
    refine load_all ((o8 _ (by omega)).trans it7) Tryz.agg175 ?_
    refine fin hk c8 ?_ ?_ (by omega)
    · exact f3.trans ((f4.less (by omega)).trans ((Fm.upd (n := h.size) (r := r) u5 (.inl (by omega))).trans ((Fm.lift f6 (by omega) (by omega)).trans ((Fm.upd u7 (.inl (by omega))).trans (f8.less (by omega))))))
    · rw [o8 _ (by omega), u7.other _ (by omega), f6.same _ (by omega) (by omega), u5.other _ (by omega), f4.same _ (by omega) (by omega)]
end Rt
end Go.Proofs

set_option maxRecDepth 100000
namespace Go.Proofs
open Go.Vcg Go.Extern
namespace Rt
attribute [local congr] Reads.congr ReadsS.congr pLoad.congr pLoadS.congr pStore.congr Runs.congr CallsH.congr bcase.congr boolV.congr Stable.congr pAlloc.congr
variable {S : Glb} {n : Nat} {h : Heap} {r : Nat} {bv : Value} {l : List UInt8} {p lang : Nat} {R : Value → Heap → Prop} {E : List PanicEntry → Heap → Prop}

def OwesS (S : Glb) (n : Nat) (h : Heap) (r : Nat) (bv : Value) (l : List UInt8) (lang : Nat) (m : Res (W4 × Nat)) (R : Value → Heap → Prop) : Prop :=
  match m with
  | .out => False
  | .bad code pos => ∀ h' s e, Fm h.size r h h' → IsErr S h' h.size lang code pos e → R (.tuple #[.agg (W4.vals s).toArray, e]) h'
  | .ok x => ∀ h', Fm h.size r h h' → Bx S n h' r bv l x.2 lang → R (.tuple #[.agg x.1.vals.toArray, .nilIface]) h'
theorem ranged_spec {one : Bool} {b : UInt8} {s : W4} {frm : Nat} (c : Bx S n h r bv l p lang) (hk : OwesS S n h r bv l lang (rangedS lang l frm (one, b, s, p)) R) :
    CallsH Tryz.prog 103 #[ptr r, .agg (itemV one b s frm).toArray] h R E := by
  have hr := at_lt c.rd
  have hl := c.len
  have hpl := c.le
  refine C103 ?_
  unfold S103
  refine new_rule fun h1 a1 => ?_
  have s1 := a1.size
  have c1 := c.al a1
  refine alloc_rule Tryz.zero146 fun h2 a2 => ?_
  have s2 := a2.size
  have c2 := c1.al a2
  have f2 : Fm h.size r h h2 := (Fm.al a1 (Nat.le_refl _)).trans (Fm.al a2 (by omega))
  have it2 : h2[h.size]? = some (.cells (itemV one b s frm).toArray 175 (0, 0)) := (a2.old _ (by omega)).trans a1.at_
  have rt2 : h2[h1.size]? = some (.cells (Value.agg #[.int .u64 0, .int .u64 0, .int .u64 0, .int .u64 0]).cells 146 (0, 0)) := a2.at_
  have fin : ∀ {h8 : Heap} {t : W4} {e : Value}, h8[h1.size]? = h2[h1.size]? → (∀ h9, Upd h8 h9 h1.size (.cells t.vals.toArray 146 (0, 0)) → R (.tuple #[.agg t.vals.toArray, e]) h9) →
      pStore Tryz.prog 146 (.pointer (some ⟨h1.size, 0, none⟩)) (.agg t.vals.toArray) h8 fun h9 => pLoad Tryz.prog 146 (.pointer (some ⟨h1.size, 0, none⟩)) h9 fun r7 => R (.tuple #[r7, e]) h9 := by
    intro h8 t e r8 hq
    refine putSet (r8.trans rt2) rfl fun h9 u9 => ?_
    exact getSet u9.same (hq h9 u9)
  unfold rangedS at hk
  simp only at hk
  refine Join1.intro (fun v h' => h' = h2 ∧ v = .bool (!one || !isB l p 45 || isB l (p + 1) 93 || decide (l.length ≤ p + 1))) ?_ ?_
  · rw [Tryz.fa175_0, addr_add, pLoad_one (v := .bool one) Tryz.agg4 (by rw [hcell_of it2]; rfl), reads_not, boolV_bool]
    refine bcase_of (fun h1' => ?_) (fun h1' => ?_)
    · exact ⟨⟨⟨rfl, by rw [h1']; simp⟩, trivial⟩, trivial⟩
    refine ⟨?_, trivial⟩
    refine isB_spec (k := 0) (x := 45) c2 (by omega) ?_
    refine ⟨trivial, ?_⟩
    rw [Nat.add_zero, reads_not, boolV_bool]
    refine bcase_of (fun h2' => ?_) (fun h2' => ?_)
    · exact ⟨⟨rfl, by rw [h1', h2']; simp⟩, trivial⟩
    refine ⟨?_, trivial⟩
    refine isB_spec (k := 1) (x := 93) c2 (by omega) ?_
    refine ⟨trivial, ?_⟩
    rw [boolV_bool]
    refine bcase_of (fun h3' => ⟨rfl, by rw [h1', h2', h3']; simp⟩) (fun h3' => ?_)
    rw [reads_nil, Tryz.fa168_1, addr_add, Nat.zero_add, c2.ld1, reads_add, wrap_n1 _ (by omega), reads_nil, Tryz.fa168_0, addr_add, c2.ld0, reads_blen c2.by_ Tryz.underlying115, reads_ge, dec_nn_le]
    exact ⟨rfl, by rw [h1', h2', h3']; simp⟩
  rintro v h3 ⟨rfl, rfl⟩
  rw [boolV_bool]
  refine bcase_of (fun hc => ?_) (fun hc => ?_)
  · rw [if_pos hc] at hk
    rw [Tryz.fa175_2, addr_add, Nat.zero_add]
    refine load_row it2 Tryz.agg146 (by simp [itemV]) ?_
    have ev : (((itemV one b s frm).toArray.toList.drop 2).take 4).toArray = s.vals.toArray := rfl
    rw [ev]
    refine fin rfl fun h9 u9 => ?_
    exact hk h9 (f2.trans (Fm.upd u9 (.inl (by omega)))) (c2.upd u9 (by have := c.nle; omega) (by omega))
  · rw [if_neg (by rw [hc]; simp)] at hk
    have hc' := hc
    simp only [Bool.or_eq_false_iff] at hc'
    have hlt : p + 1 < l.length := by have := of_decide_eq_false hc'.2; omega
    rw [reads_nil, Tryz.fa168_1, addr_add, Nat.zero_add, c2.ld1, reads_add, wrap_n1 _ (by omega), reads_nil, Tryz.fa168_1, addr_add, Nat.zero_add]
    refine c2.goto (by omega) fun h4 f4 s4 c4 o4 => ?_
    refine item_spec8 c4 hlt ?_
    cases hm : itemS lang l (p + 1) with
    | out => rw [hm] at hk; exact hk.elim
    | bad code pos =>
      rw [hm] at hk
      intro h5 one' b' s' f' e f5 he
      have s5 := f5.size
      rw [reads_ext0, reads_ext1]
      refine alloc_rule Tryz.zero175 fun h6 a6 => ?_
      have s6 := a6.size
      refine storeFull a6.at_ (xs := (itemV one' b' s' f').toArray) Tryz.size175 rfl (itemV_flat _ _ _ _) fun h7 u7 => ?_
      have s7 := u7.size
      obtain ⟨ea, eb, _, _, rfl, _⟩ := id he
      rw [Tryz.neq26_s, boolV_bool, bcase_true, Tryz.fa175_2, addr_add, Nat.zero_add]
      have e47 : ∀ k, k < h4.size → k ≠ r → h7[k]? = h3[k]? := fun k hk hkr => by rw [u7.other _ (by omega), a6.old _ (by omega), f5.same _ hk hkr, o4 _ hkr]
      refine load_row ((e47 h.size (by omega) (by omega)).trans it2) Tryz.agg146 (by simp [itemV]) ?_
      have ev : (((itemV one b s frm).toArray.toList.drop 2).take 4).toArray = s.vals.toArray := rfl
      rw [ev]
      refine fin (e47 _ (by omega) (by omega)) fun h9 u9 => ?_
      have s9 := u9.size
      refine hk h9 s _ (f2.trans ((f4.less (by omega)).trans ((f5.less (by omega)).trans ((Fm.al a6 (by omega)).trans ((Fm.upd u7 (.inl (by omega))).trans (Fm.upd u9 (.inl (by omega)))))))) ?_
      exact (he.fm fun k k1 k2 => by rw [u9.other _ (by omega), u7.other _ (by omega), a6.old _ (by omega)]).less (by omega)
    | ok y =>
      rw [hm] at hk
      obtain ⟨one', b', s', q⟩ := y
      simp only at hk
      intro h5 f5 c5
      have s5 := f5.size
      simp only at c5
      rw [reads_ext0, reads_ext1]
      refine alloc_rule Tryz.zero175 fun h6 a6 => ?_
      have s6 := a6.size
      refine storeFull a6.at_ (xs := (itemV one' b' s' (p + 1)).toArray) Tryz.size175 rfl (itemV_flat _ _ _ _) fun h7 u7 => ?_
      have s7 := u7.size
      have hn := c.nle
      have c7 := (c5.al a6).upd u7 (by omega) (by have := at_lt c5.rd; omega)
      have e47 : ∀ k, k < h4.size → k ≠ r → h7[k]? = h3[k]? := fun k hk hkr => by rw [u7.other _ (by omega), a6.old _ (by omega), f5.same _ hk hkr, o4 _ hkr]
      have it7 := (e47 h.size (by omega) (by omega)).trans it2
      have rt7 := e47 h1.size (by omega) (by omega)
      have f7 : Fm h.size r h h7 := f2.trans ((f4.less (by omega)).trans ((f5.less (by omega)).trans ((Fm.al a6 (by omega)).trans (Fm.upd u7 (.inl (by omega))))))
      rw [Tryz.neq26_n, boolV_bool, bcase_false, Tryz.fa175_0, addr_add, pLoad_one (v := .bool one') Tryz.agg4 (by rw [hcell_of u7.same]; rfl), reads_not, boolV_bool]
      refine bcase_of (fun ho => ?_) (fun ho => ?_)
      · rw [if_pos ho] at hk
        refine ⟨fun h' => h'[h.size]? = some (.cells (itemV one b s frm).toArray 175 (0, 0)) ∧ h'[h5.size]? = some (.cells (itemV one' b' s' (p + 1)).toArray 175 (0, 0)), ⟨it7, u7.same⟩, ?_⟩
        refine readsS_lift (fun h k => Tryz.fa175_2) ?_
        rw [addr_add, Nat.zero_add]
        refine pLoadS_row (t := 175) Tryz.agg146 (by simp [itemV]) (fun h' hh => hh.1) ?_
        have ev : (((itemV one b s frm).toArray.toList.drop 2).take 4).toArray = s.vals.toArray := rfl
        rw [ev]
        refine readsS_lift (fun h k => Tryz.fa175_3) ?_
        rw [addr_add, Nat.zero_add]
        refine pLoadS_one Tryz.agg3 (v := .int .i64 (p + 1 : Nat)) (fun h' hh => by rw [hcell_of hh.2]; rfl) ?_
        refine ⟨failB_spec (code := 8) c7 (by omega) (by omega) fun h8 e f8 he => ?_, trivial⟩
        have s8 := f8.size
        refine ⟨⟨(f8.same _ (by omega) (by omega)).trans it7, (f8.same _ (by omega) (by omega)).trans u7.same⟩, ?_, trivial⟩
        refine pStore_mono (fun h' x => ⟨trivial, x⟩) ?_
        refine fin ((f8.same _ (by omega) (by omega)).trans rt7) fun h9 u9 => ?_
        refine hk h9 s _ (f7.trans ((Fm.lift f8 (by omega) (by omega)).trans (Fm.upd u9 (.inl (by omega))))) ?_
        exact (he.fm fun k k1 k2 => u9.other _ (by omega)).less (by omega)
      · rw [if_neg (by rw [ho]; simp)] at hk
        rw [Tryz.fa175_1, addr_add, Nat.zero_add, pLoad_one (v := .int .u8 b.toNat) Tryz.agg5 (by rw [hcell_of it7]; rfl), Tryz.fa175_1, addr_add, Nat.zero_add, pLoad_one (v := .int .u8 b'.toNat) Tryz.agg5 (by rw [hcell_of u7.same]; rfl), reads_gt, dec_nn_lt, boolV_bool]
        refine bcase_of (fun hg => ?_) (fun hg => ?_)
        · have hg : b' < b := of_decide_eq_true hg
          rw [if_pos hg] at hk
          refine ⟨fun h' => h'[h.size]? = some (.cells (itemV one b s frm).toArray 175 (0, 0)), it7, ?_⟩
          refine readsS_lift (fun h k => Tryz.fa175_2) ?_
          rw [addr_add, Nat.zero_add]
          refine pLoadS_row (t := 175) Tryz.agg146 (by simp [itemV]) (fun h' hh => hh) ?_
          have ev : (((itemV one b s frm).toArray.toList.drop 2).take 4).toArray = s.vals.toArray := rfl
          rw [ev]
          refine readsS_lift (fun h k => Tryz.fa175_3) ?_
          rw [addr_add, Nat.zero_add]
          refine pLoadS_one Tryz.agg3 (v := .int .i64 frm) (fun h' hh => by rw [hcell_of hh]; rfl) ?_
          refine ⟨failB_spec (code := 7) c7 (by omega) (by omega) fun h8 e f8 he => ?_, trivial⟩
          have s8 := f8.size
          refine ⟨(f8.same _ (by omega) (by omega)).trans it7, ?_, trivial⟩
          refine pStore_mono (fun h' x => ⟨trivial, x⟩) ?_
          refine fin ((f8.same _ (by omega) (by omega)).trans rt7) fun h9 u9 => ?_
          refine hk h9 s _ (f7.trans ((Fm.lift f8 (by omega) (by omega)).trans (Fm.upd u9 (.inl (by omega))))) ?_
          exact (he.fm fun k k1 k2 => u9.other _ (by omega)).less (by omega)
        · have hg : ¬ b' < b := of_decide_eq_false hg
          rw [if_neg hg] at hk
          rw [Tryz.fa175_1, addr_add, Nat.zero_add, pLoad_one (v := .int .u8 b.toNat) Tryz.agg5 (by rw [hcell_of it7]; rfl), Tryz.fa175_1, addr_add, Nat.zero_add, pLoad_one (v := .int .u8 b'.toNat) Tryz.agg5 (by rw [hcell_of u7.same]; rfl)]
          refine range_spec fun h8 f8 => ?_
          have s8 := f8.size
          refine fin ((f8.same _ (by omega) (by omega)).trans rt7) fun h9 u9 => ?_
          exact hk h9 (f7.trans ((Fm.lift f8 (by omega) (by omega)).trans (Fm.upd u9 (.inl (by omega))))) ((c7.still f8).upd u9 (by omega) (by omega))
end Rt
end Go.Proofs
