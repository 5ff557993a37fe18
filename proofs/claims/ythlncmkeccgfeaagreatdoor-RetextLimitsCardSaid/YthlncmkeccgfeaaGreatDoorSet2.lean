/- A part of the proofs over this seat: Set2. -/
import Derived.Test.YthlncmkeccgfeaaGreatDoorPar
import Derived.Laws.StandIn
import Derived.Lib.Bytealg
import Derived.Great.FillDense
import Derived.Great.BuildSlice
set_option linter.unusedVariables false
set_option linter.unusedSimpArgs false
set_option maxRecDepth 100000
namespace Go.Proofs
open Go.Vcg
namespace Rt
attribute [local congr] Reads.congr ReadsS.congr pLoad.congr pLoadS.congr pStore.congr Runs.congr CallsH.congr bcase.congr boolV.congr Stable.congr pAlloc.congr
variable {S : Glb} {n : Nat} {h : Heap} {r : Nat} {bv : Value} {l : List UInt8} {p : Nat} {ext : Bool} {op gr : Nat} {R : Value → Heap → Prop} {E : List PanicEntry → Heap → Prop}

/-! ### The list of what was read -/
def Kids (h : Heap) (n : Nat) (v : Value) (ts : List T) : Prop := ∃ xs, Owns h n 36 9 v ts.length xs ∧ IsRow h (fun b => n ≤ b ∧ v.ownBlock ≠ some b) ts xs
theorem Kids.nil (h : Heap) (n : Nat) : Kids h n (.slice none 0 0) [] := ⟨[], Owns.nil .., by simp only [IsRow]⟩
theorem Kids.frame {h' : Heap} {v : Value} {ts : List T} (k : Kids h n v ts) (hs : ∀ b, n ≤ b → b < h.size → h'[b]? = h[b]?) : Kids h' n v ts := by
  obtain ⟨xs, ⟨h1, h2⟩, h3⟩ := k
  refine ⟨xs, ⟨h1, h2.imp id ?_⟩, h3.frame fun b hb hlt => ⟨hb, hs b hb.1 hlt⟩⟩
  rintro ⟨g, cap, cur, e1, e2, e3, e4⟩
  exact ⟨g, cap, cur, e1, e2, (hs g e2 (at_lt e3)).trans e3, e4⟩
theorem Kids.fm {h' : Heap} {v : Value} {ts : List T} (k : Kids h n v ts) (f : Fm h.size r h h') (hr : r < n) : Kids h' n v ts :=
  k.frame fun b h1 h2 => f.same b h2 (by omega)
/-- what a call has made does not lie in the list's row -/
theorem Kids.apart {h' : Heap} {v : Value} {ts : List T} (k : Kids h n v ts) (hn : n ≤ h.size) {t : T} {vs : List Value} (ht : IsRe h' (fun b => h.size ≤ b) t vs) : IsRe h' (fun b => n ≤ b ∧ v.ownBlock ≠ some b) t vs := by
  refine ht.frame fun b hb _ => ⟨⟨Nat.le_trans hn hb, fun e => ?_⟩, rfl⟩
  obtain ⟨xs, ⟨h1, h2⟩, h3⟩ := k
  rcases h2 with ⟨rfl, _⟩ | ⟨g, cap, cur, rfl, e2, e3, e4⟩
  · cases e
  · have : g = b := by simpa [Value.ownBlock] using e
    have := at_lt e3
    omega

theorem push_append {v : Value} {ts : List T} {t : T} {vs : List Value} {K : Value → Heap → Prop} (k : Kids h n v ts) (ht : IsRe h (fun b => n ≤ b ∧ v.ownBlock ≠ some b) t vs) (hn : n ≤ h.size) (hlen : ts.length ≤ 1000000)
    {h1 : Heap} (a1 : Al h h1 (.cells vs.toArray 36 (0, 0)))
    (hK : ∀ v' h', Kids h' n v' (ts ++ [t]) → (∀ r, Fm n r h h') → K v' h') :
    Runs Tryz.prog (builtin .append #[34, 34] 34 #[false, false] #[v, .slice (some ⟨h.size, 0, none⟩) 1 1]) h1 K E := by
  have hx : ∀ b, n ≤ b ∧ v.ownBlock ≠ some b → b < h.size → (n ≤ b ∧ v.ownBlock ≠ some b) ∧ h1[b]? = h[b]? := fun b hb hlt => ⟨hb, a1.old b hlt⟩
  have k1 := k.frame (h' := h1) fun b _ hlt => a1.old b hlt
  obtain ⟨xs, ho, hrow⟩ := k1
  refine runs_append' (size := 9) (bytes := 88) (news := vs) Tryz.info36 Tryz.underlying34 rfl (by omega) ho (by rw [ht.len]) ?_ ?_ (by simp [maxLen]; omega) (by omega) (by rw [a1.size]; omega) fun v' h2 ho' hg hnil hat => ?_
  · intro j u hj
    rw [addr_add, Nat.zero_add, hcell_of a1.at_]
    simpa [Value.cells] using hj
  · intro u hu
    have := ht.flat u hu
    cases u <;> first | rfl | (simp [Go.Vcg.flat] at this)
  · refine hK v' h2 ⟨xs ++ vs, by simpa using ho', ?_⟩ fun r => ?_
    · have keep : ∀ b, n ≤ b ∧ v.ownBlock ≠ some b → b < h1.size → b < h.size → (n ≤ b ∧ v'.ownBlock ≠ some b) ∧ h2[b]? = h1[b]? := by
        intro b hb hlt hlt0
        refine ⟨⟨hb.1, fun e => ?_⟩, hg.block b hlt (fun e => hb.2 e.symm)⟩
        rcases hat with h3 | h3
        · exact hb.2 (h3 ▸ e)
        · rw [h3] at e
          have : h1.size = b := by simpa using e
          have := a1.size
          omega
      have e1 : IsRow h2 (fun b => n ≤ b ∧ v'.ownBlock ≠ some b) ts xs := by
        have hrow0 : IsRow h (fun b => n ≤ b ∧ v.ownBlock ≠ some b) ts xs := by
          obtain ⟨ys, ho0, hr0⟩ := k
          have : ys = xs := by
            rcases ho0.2 with ⟨e, hz⟩ | ⟨g, cap, cur, e, e2, e3, e4, e5, e6, e7⟩
            · have l1 := ho0.1; have l2 := ho.1
              rw [hz] at l1 l2
              exact (List.length_eq_zero_iff.1 (by simpa using l1)).trans (List.length_eq_zero_iff.1 (by simpa using l2)).symm
            · rcases ho.2 with ⟨e', hz⟩ | ⟨g', cap', cur', e', e2', e3', e4', e5', e6', e7'⟩
              · rw [e] at e'; cases e'
              · rw [e] at e'
                cases e'
                rw [a1.old _ (at_lt e3), e3] at e3'
                cases e3'
                rw [← e7, ← e7']
          exact this ▸ hr0
        exact hrow0.frame fun b hb hlt => by
          have h3 := keep b hb (by rw [a1.size]; omega) hlt
          exact ⟨h3.1, h3.2.trans (a1.old b hlt)⟩
      refine IsRow.snoc (ht.frame fun b hb hlt => ?_) e1
      have h3 := keep b hb (by rw [a1.size]; omega) hlt
      exact ⟨h3.1, h3.2.trans (a1.old b hlt)⟩
    · refine ⟨by have := hg.size; rw [a1.size] at this; omega, fun b hb _ => ?_⟩
      rw [hg.block b (by rw [a1.size]; omega) ?_, a1.old b (by omega)]
      intro e
      rcases ho.2 with ⟨rfl, _⟩ | ⟨g, cap, cur, rfl, e2, _⟩
      · cases e
      · have : b = g := by simpa [Value.ownBlock] using e
        omega

theorem push_kid {v : Value} {ts : List T} {t : T} {vs : List Value} {K : Value → Heap → Prop} (k : Kids h n v ts) (ht : IsRe h (fun b => n ≤ b ∧ v.ownBlock ≠ some b) t vs) (hn : n ≤ h.size) (hlen : ts.length ≤ 1000000)
    (hK : ∀ v' h', Kids h' n v' (ts ++ [t]) → (∀ r, Fm n r h h') → K v' h') :
    Runs Tryz.prog (vS (Instr.buildSlice 34 1 #[(0, .agg vs.toArray)])) h (fun s h1 => Runs Tryz.prog (builtin .append #[34, 34] 34 #[false, false] #[v, s]) h1 K E) E :=
  slice1_rule Tryz.info36 Tryz.underlying34 (by simp [Value.cells, ht.len]) (by omega) (by omega) fun h1 a1 => push_append k ht hn hlen a1 hK

def joinM (kind : Nat) : List T → T
  | [t] => t
  | ts => .node kind .zero 0 0 0 ts
theorem flat_reL {k : Nat} {s : W4} {mn mx : Int} {g : Nat} {kv : Value} (hk : flat kv = true) : ∀ v ∈ (reL k s mn mx g kv).toArray.toList, flat v = true := by
  intro v hv
  simp only [reL, List.mem_cons, List.not_mem_nil, or_false] at hv
  rcases hv with rfl | rfl | rfl | rfl | rfl | rfl | rfl | rfl | rfl <;> first | rfl | exact hk

theorem joined_spec {v : Value} {ts : List T} {kind : Nat} (k : Kids h n v ts) (hn : n ≤ h.size) (hne : ts ≠ [])
    (hK : ∀ h' vs, Fm h.size h.size h h' → IsRe h' (fun b => n ≤ b) (joinM kind ts) vs → R (.agg vs.toArray) h') : CallsH Tryz.prog 80 #[.int .i64 kind, v] h R E := by
  refine C80 ?_
  unfold S80
  obtain ⟨xs, ⟨hl, ho⟩, hrow⟩ := k
  rcases ho with ⟨_, hz⟩ | ⟨g, cap, cur, rfl, e2, e3, e4, e5, e6, e7⟩
  · exact absurd (List.length_eq_zero_iff.1 hz) hne
  refine alloc_rule Tryz.zero36 fun h1 a1 => ?_
  have g1 := (a1.old g (at_lt e3)).trans e3
  have f1 : Fm h.size h.size h h1 := Fm.al a1 (Nat.le_refl _)
  simp only [boolV_bool, bcase_true, bcase_false, need, Tryz.zero36, reads_eq, Tryz.agg36, Tryz.size36, Tryz.bd36_0_5, reads_rlen Tryz.underlying34]
  refine bcase_of (fun hc => ?_) (fun hc => ?_)
  · have h1' : ts.length = 1 := by have := of_decide_eq_true hc; omega
    obtain ⟨t, rfl⟩ := List.length_eq_one_iff.1 h1'
    rw [show Value.int IntKind.i64 0 = .int .i64 ((0 : Nat) : Int) from rfl, reads_idxRow Tryz.underlying34 Tryz.size36 (by simp)]
    rw [addr_add]
    simp only [List.length_cons, List.length_nil, Nat.zero_add, Nat.one_mul] at *
    refine load_row g1 Tryz.agg36 (by omega) ?_
    have hx : (cur.toList.drop (0 * 9)).take 9 = xs := by simpa using e7
    rw [Nat.zero_mul] at hx ⊢
    rw [hx]
    rw [IsRow.one] at hrow
    have ht := hrow
    refine ret_full a1.at_ (xs := xs.toArray) (by rw [Tryz.size36]; simp [ht.len]) (by rw [Tryz.agg36]; simp [ht.len]) (by simp [ht.len, Value.cells]) (by simpa using ht.flat) fun h2 hu => ?_
    refine hK h2 xs (f1.trans (Fm.upd hu (.inl (Nat.le_refl _)))) (ht.frame fun b hb hlt => ⟨hb.1, ?_⟩)
    rw [hu.other b (by omega), a1.old b hlt]
  · have h2' : ts.length ≠ 1 := by have := of_decide_eq_false hc; omega
    have hj : joinM kind ts = .node kind .zero 0 0 0 ts := by
      unfold joinM
      split
      · rename_i t; exact absurd rfl h2'
      · rfl
    rw [hj] at hK
    refine ret_full a1.at_ (xs := (reL kind .zero 0 0 0 (.slice (some ⟨g, 0, none⟩) ts.length cap)).toArray) Tryz.size36 Tryz.agg36 rfl (flat_reL rfl) fun h2 hu => ?_
    refine hK h2 _ (f1.trans (Fm.upd hu (.inl (Nat.le_refl _)))) ?_
    simp only [IsRe]
    have hgs := at_lt e3
    refine ⟨_, rfl, .inr ⟨g, cap, cur, e2, rfl, e4, by rw [e6]; omega, ?_, ?_⟩⟩
    · rw [hu.other g (by omega)]; exact g1
    · rw [e7]
      exact hrow.frame fun b hb hlt => ⟨hb.1, by rw [hu.other b (by omega), a1.old b hlt]⟩

/-- one that has one -/
theorem IsRe.kid {b : Nat} {Q : Nat → Prop} {t : T} {vs : List Value} {k g : Nat} {mn mx : Int} (hb : h[b]? = some (.cells vs.toArray 36 (0, 0))) (hq : Q b) (ht : IsRe h Q t vs) :
    IsRe h Q (.node k .zero mn mx g [t]) (reL k .zero mn mx g (.slice (some ⟨b, 0, none⟩) 1 1)) := by
  simp only [IsRe]
  refine ⟨_, rfl, .inr ⟨b, 1, vs.toArray, hq, rfl, by simp, by simp [ht.len], hb, ?_⟩⟩
  rw [IsRow.one]
  simpa [← ht.len] using ht

theorem rep_spec {t : T} {vs : List Value} {mn mx : Int} {Q : Nat → Prop} (ht : IsRe h Q t vs)
    (hK : ∀ h' vs', Fm h.size h.size h h' → IsRe h' (fun b => Q b ∨ h.size ≤ b) (.node 6 .zero mn mx 0 [t]) vs' → R (.agg vs'.toArray) h') : CallsH Tryz.prog 83 #[.agg vs.toArray, .int .i64 mn, .int .i64 mx] h R E := by
  refine C83 ?_
  unfold S83
  refine new_rule fun h1 a1 => alloc_rule Tryz.zero36 fun h2 a2 => ?_
  have s1 := a1.size
  have s2 := a2.size
  have b1 := (a2.old h.size (by omega)).trans a1.at_
  refine load_all b1 (by rw [Tryz.agg36]; simp [Value.cells, ht.len]) ?_
  refine slice1_rule Tryz.info36 Tryz.underlying34 (by simp [Value.cells, ht.len]) (by omega) (by omega) fun h3 a3 => ?_
  have s3 := a3.size
  simp only [boolV_bool, bcase_true, bcase_false, need, Tryz.zero36, Tryz.agg36, Tryz.bd36_0_2_3_5, Tryz.size36]
  refine ret_full ((a3.old h1.size (by omega)).trans a2.at_) (xs := (reL 6 .zero mn mx 0 (.slice (some ⟨h2.size, 0, none⟩) 1 1)).toArray) Tryz.size36 Tryz.agg36 rfl (flat_reL rfl) fun h4 hu => ?_
  have hold : ∀ b, b < h.size → h4[b]? = h[b]? := fun b hb => by rw [hu.other b (by omega), a3.old b (by omega), a2.old b (by omega), a1.old b hb]
  refine hK h4 _ ⟨by rw [hu.size]; omega, fun b hb _ => hold b hb⟩ ?_
  refine IsRe.kid (vs := vs) ((hu.other h2.size (by omega)).trans a3.at_) (.inr (by omega)) (ht.frame fun b hb hlt => ⟨.inl hb, hold b hlt⟩)

/-! ### What stands behind a backslash -/
inductive Res (α : Type) where
  | out
  | bad (code pos : Nat)
  | ok (x : α)

theorem sindex_spec {s : List UInt8} {c : UInt8} (hk : R (.int .i64 (Go.Lib.indexByte s c)) h) : CallsH Tryz.prog 24 #[str s, .int .u8 c.toNat] h R E := by
  refine C24 ?_
  unfold S24
  refine C49 ?_
  unfold S49
  intro w hw
  subst hw
  have hr := run_callFunc_indexByte (P := Tryz.prog) (f := 74) (fn := Tryz.f74) Tryz.func74 (by kernel_rfl) (by kernel_rfl) (by kernel_rfl) (by kernel_rfl) #[str s, .int .u8 c.toNat] w
  have e := Go.Lib.run_indexByteString (P := Tryz.prog) ⟨s.toArray⟩ c.toNat w
  unfold str at *
  rw [e] at hr
  have hc : ((c.toNat : Int)).toNat.toUInt8 = c := by simp
  rw [hc] at hr
  simp [Deferred.ofValue, invoke, hr, uponH, Same.refl]
  exact hk
theorem index_ge {s : List UInt8} {c : UInt8} : decide ((0 : Int) ≤ Go.Lib.indexByte s c) = s.contains c := by
  induction s with
  | nil => rfl
  | cons b s ih =>
    have hge := Go.Lib.indexByte_ge s c
    unfold Go.Lib.indexByte
    by_cases hb : b = c
    · subst hb; simp
    · have hb' : (b == c) = false := by simpa using hb
      have hc' : (c == b) = false := by simpa using Ne.symm hb
      rw [hb', List.contains_cons, hc', Bool.false_or, ← ih]
      by_cases h1 : Go.Lib.indexByte s c = -1
      · simp [h1]
      · have h2 : (Go.Lib.indexByte s c == -1) = false := by simpa using h1
        simp only [h2, Bool.false_eq_true, if_false]
        have : (0 : Int) ≤ Go.Lib.indexByte s c := by omega
        simp [this]; omega
def escM (l signs : List UInt8) (p : Nat) : Res (T × Nat) :=
  match l[p + 1]? with
  | none => .bad 10 p
  | some c => if c = 110 then .ok (single 10, p + 2) else if signs.contains c then .ok (single c, p + 2) else .bad 10 p

/-- what a reading function's caller owes for what it tells -/
def Owes (S : Glb) (n : Nat) (h : Heap) (r : Nat) (bv : Value) (l : List UInt8) (ext : Bool) (op : Nat) (m : Res (T × Nat × Nat)) (R : Value → Heap → Prop) (E : List PanicEntry → Heap → Prop) : Prop :=
  match m with
  | .out => False
  | .bad code pos => ∀ c h', Fails S h' h.size ext code pos c → Fm h.size r h h' → E c h'
  | .ok (t, p', gr') => ∀ h' vs, Fm h.size r h h' → Cx S n h' r bv l p' ext op gr' → IsRe h' (fun b => h.size ≤ b) t vs → R (.agg vs.toArray) h'
def Res.with (gr : Nat) : Res (T × Nat) → Res (T × Nat × Nat)
  | .out => .out
  | .bad a b => .bad a b
  | .ok (t, p) => .ok (t, p, gr)
theorem Fails.more {m k code pos : Nat} {c : List PanicEntry} (f : Fails S h m ext code pos c) (hk : k ≤ m) : Fails S h k ext code pos c := by
  obtain ⟨v, ⟨a, b, h1, h2, h3⟩, h4⟩ := f
  exact ⟨v, ⟨a, b, by omega, by omega, h3⟩, h4⟩

theorem ret_re {b : Nat} {cs : Array Value} {t : T} {vs : List Value} (hb : h[b]? = some (.cells cs 36 (0, 0))) (hs : cs.size = 9) {Q : Nat → Prop} (hq : ∀ x, Q x → x ≠ b) (ht : IsRe h Q t vs)
    (hK : ∀ h', Upd h h' b (.cells vs.toArray 36 (0, 0)) → IsRe h' Q t vs → R (.agg vs.toArray) h') :
    pStore Tryz.prog 36 (.pointer (some ⟨b, 0, none⟩)) (.agg vs.toArray) h fun h' => pLoad Tryz.prog 36 (.pointer (some ⟨b, 0, none⟩)) h' fun r => R r h' :=
  ret_full hb (by rw [Tryz.size36]; simp [ht.len]) (by rw [Tryz.agg36]; simp [ht.len]) (by simp [ht.len, hs]) (by simpa using ht.flat) fun h' hu =>
    hK h' hu (ht.frame fun x hx _ => ⟨hx, hu.other x (hq x hx)⟩)

theorem esc_spec {signs : List UInt8} (c : Cx S n h r bv l p ext op gr) (hp : p < l.length) (hk : Owes S n h r bv l ext op ((escM l signs p).with gr) R E) :
    CallsH Tryz.prog 106 #[ptr r, str signs] h R E := by
  refine C106 ?_
  unfold S106
  refine alloc_rule Tryz.zero36 fun h1 a1 => ?_
  have c1 := c.al a1
  have s1 := a1.size
  have hl := c.len
  have hr := c.rlt
  have f1 : Fm h.size r h h1 := Fm.al a1 (Nat.le_refl _)
  unfold escM at hk
  have fl : l[p + 1]? = none ∨ (∃ x, l[p + 1]? = some x ∧ x ≠ 110 ∧ signs.contains x = false) → ∀ {K : Value → Heap → Prop}, CallsH Tryz.prog 58 #[ptr r, .int .i64 10, .int .i64 p] h1 K E := by
    intro hh K
    refine fail_spec (code := 10) c1 (by omega) (by omega) fun e h' hf f => ?_
    rcases hh with hh | ⟨x, hh, hx, hx2⟩
    · rw [hh] at hk
      exact hk e h' (hf.more (by omega)) (f1.trans (f.less (by omega)))
    · rw [hh] at hk
      simp only [hx, if_false, hx2, Bool.false_eq_true] at hk
      exact hk e h' (hf.more (by omega)) (f1.trans (f.less (by omega)))
  refine Join0.intro (fun h' => h' = h1 ∧ p + 1 < l.length) ?_ ?_
  · simp only [boolV_bool, bcase_true, bcase_false, need, Tryz.zero36, reads_nil, Tryz.fa57_1, addr_add, Tryz.agg3, reads_add, Tryz.fa57_0, Tryz.agg29, reads_ge, Tryz.agg5, reads_eq, Tryz.size3, Tryz.size36, Tryz.bd36, Tryz.agg36, c1.ld0, c1.ld1, reads_blen c1.by_ Tryz.underlying29, Nat.zero_add, wrap_n1 p (by omega), dec_nn_le]
    refine bcase_of (fun hc => ?_) (fun hc => ⟨trivial, by have := of_decide_eq_false hc; omega⟩)
    have := of_decide_eq_true hc
    exact fl (.inl (List.getElem?_eq_none (by omega)))
  · rintro h2 ⟨rfl, hlt⟩
    simp only [boolV_bool, bcase_true, bcase_false, need, Tryz.zero36, reads_nil, Tryz.fa57_1, addr_add, Tryz.agg3, reads_add, Tryz.fa57_0, Tryz.agg29, reads_ge, Tryz.agg5, reads_eq, Tryz.size3, Tryz.size36, Tryz.bd36, Tryz.agg36, c1.ld0, c1.ld1, Nat.zero_add, wrap_n1 p (by omega), wrap_n2 p (by omega)]
    refine idx_load c1.by_ Tryz.underlying29 Tryz.size5 Tryz.agg5 hlt ?_
    rw [List.getElem?_eq_getElem hlt] at hk fl
    refine Join0.intro (fun h' => h' = h2 ∧ l[p + 1] ≠ 110 ∧ signs.contains l[p + 1] = false) ?_ ?_
    · refine Join1.intro (fun v h' => h' = h2 ∧ ∃ x : UInt8, v = .int .u8 x.toNat ∧ (if l[p + 1] = 110 then .ok (single 10, p + 2) else if signs.contains l[p + 1] then .ok (single l[p + 1], p + 2) else .bad 10 p : Res (T × Nat)) = .ok (single x, p + 2)) ?_ ?_
      · simp only [boolV_bool, bcase_true, bcase_false, need, Tryz.zero36, reads_nil, Tryz.fa57_1, addr_add, Tryz.agg3, reads_add, Tryz.fa57_0, Tryz.agg29, reads_ge, Tryz.agg5, reads_eq, Tryz.size3, Tryz.size36, Tryz.bd36, Tryz.agg36]
        refine bcase_of (fun hc => ?_) (fun hc => ?_)
        · have : l[p + 1] = 110 := by have := of_decide_eq_true hc; exact UInt8.toNat_inj.1 (by show l[p + 1].toNat = 110; omega)
          exact ⟨trivial, 10, rfl, by simp [this]⟩
        · have hne : l[p + 1] ≠ 110 := by intro e; rw [e] at hc; simp at hc
          refine sindex_spec ?_
          rw [reads_ge, index_ge, boolV_bool]
          refine bcase_of (fun hc2 => ⟨rfl, _, rfl, by simp only [hne, if_false, hc2, if_true]⟩) (fun hc2 => ⟨rfl, hne, hc2⟩)
      · rintro v h3 ⟨rfl, x, rfl, hx⟩
        simp only at hk
        rw [hx] at hk
        simp only [boolV_bool, bcase_true, bcase_false, need, Tryz.zero36, reads_nil, Tryz.fa57_1, addr_add, Tryz.agg3, reads_add, Tryz.fa57_0, Tryz.agg29, reads_ge, Tryz.agg5, reads_eq, Tryz.size3, Tryz.size36, Tryz.bd36, Tryz.agg36, c1.ld1, Nat.zero_add, wrap_n2 p (by omega)]
        refine store1 c1.rd Tryz.size3 rfl (by simp) fun h4 hu => ?_
        obtain ⟨f4, c4⟩ := c1.at_ (p' := p + 2) hu (by omega)
        refine single_spec fun h5 f5 => ?_
        have hb := (f5.same h.size (by rw [hu.size]; omega) (by rw [hu.size]; omega)).trans ((hu.other h.size (by omega)).trans a1.at_)
        refine ret_re (t := single x) (Q := fun _ => False) hb rfl (fun _ h => h.elim) IsRe.leaf fun h6 hu6 ht => ?_
        have f6 : Fm h.size r h h6 := ((f1.trans (f4.less (by omega))).trans ⟨f5.size, fun k hk hr => f5.same k (by rw [hu.size]; omega) (by rw [hu.size]; omega)⟩).trans (Fm.upd hu6 (.inl (Nat.le_refl _)))
        refine hk h6 _ f6 (c.on (f6.less c.nle) ?_ (by omega) c.opg c.g9) (ht.frame fun b hb _ => hb.elim)
        have e1 := (hu6.other r (by omega)).trans (f5.same r (by rw [hu.size]; omega) (by rw [hu.size]; omega))
        exact e1.trans c4.rd
    · rintro h3 ⟨rfl, hx, hx2⟩
      simp only [boolV_bool, bcase_true, bcase_false, need, Tryz.zero36, reads_nil, Tryz.fa57_1, addr_add, Tryz.agg3, reads_add, Tryz.fa57_0, Tryz.agg29, reads_ge, Tryz.agg5, reads_eq, Tryz.size3, Tryz.size36, Tryz.bd36, Tryz.agg36, c1.ld1, Nat.zero_add]
      exact fl (.inr ⟨_, rfl, hx, hx2⟩)
end Rt
end Go.Proofs

set_option maxRecDepth 100000
namespace Go.Proofs
open Go.Vcg
namespace Rt
attribute [local congr] Reads.congr ReadsS.congr pLoad.congr pLoadS.congr pStore.congr Runs.congr CallsH.congr bcase.congr boolV.congr Stable.congr pAlloc.congr
variable {S : Glb} {n : Nat} {h : Heap} {r : Nat} {R : Value → Heap → Prop} {E : List PanicEntry → Heap → Prop}

theorem readsS_lift {P : Program} {s : Sem Value} {v : Value} {St : Heap → Prop} {k : Value → Prop} (hr : ∀ (h : Heap) (k : Value → Prop), Reads P s h k = k v) (hk : k v) : ReadsS P s St k := by
  refine ⟨v, fun w hw => ?_, hk⟩
  have h0 : Reads P s w.heap (fun x => x = v) := by rw [hr]
  obtain ⟨v', h1, rfl⟩ := h0
  exact h1 w rfl
theorem pLoadS_one {P : Program} {T : TypeId} {a : Addr} {v : Value} {St : Heap → Prop} {k : Value → Prop} (hT : aggN P T = some none) (hc : ∀ h, St h → hcell h a = some v) (hk : k v) : pLoadS P T (.pointer (some a)) St k := by
  unfold pLoadS
  simp only [hT]
  exact ⟨v, hc, hk⟩
theorem pLoadS_all {P : Program} {T t : TypeId} {b : Nat} {cs : Array Value} {St : Heap → Prop} {k : Value → Prop} (hT : aggN P T = some (some cs.size)) (hc : ∀ h, St h → h[b]? = some (.cells cs t (0, 0))) (hk : k (.agg cs)) :
    pLoadS P T (.pointer (some ⟨b, 0, none⟩)) St k := by
  unfold pLoadS
  simp only [hT]
  refine ⟨cs.toList, fun h hs => ?_, by simpa using hk⟩
  have := hcells_of (hc h hs) cs.size 0 0 (by omega)
  rw [this, List.drop_zero, List.take_of_length_le (by simp)]
theorem wrap_u64 {x : Nat} (hx : x < 2 ^ 64) : IntKind.u64.wrap (x : Int) = (x : Int) := u64_wrap hx
theorem wrap_u8 {x : Nat} (hx : x < 256) : IntKind.u8.wrap (x : Int) = (x : Int) := by
  simp only [IntKind.wrap, IntKind.bits, IntKind.signed]
  simp
  omega
theorem Fm.lift {n m r : Nat} {h h' : Heap} (f : Fm h.size m h h') (hn : n ≤ h.size) (hm : n ≤ m) : Fm n r h h' := ⟨f.size, fun k hk _ => f.same k (by omega) (by omega)⟩
def u8 (i : Nat) : UInt8 := UInt8.ofNat i
theorem u8_toNat {i : Nat} (h : i < 256) : (u8 i).toNat = i := by
  unfold u8
  rw [UInt8.toNat_ofNat']
  omega
theorem val_u8 {i : Nat} (h : i < 256) : Value.int .u8 (i : Int) = .int .u8 ((u8 i).toNat : Int) := by rw [u8_toNat h]
def nt (x : Nat) : Nat := 2 ^ 64 - 1 - x
def W4.notK (s : W4) (i : Nat) : W4 := ⟨if 0 < i then nt s.a else s.a, if 1 < i then nt s.b else s.b, if 2 < i then nt s.c else s.c, if 3 < i then nt s.d else s.d⟩
def W4.not (s : W4) : W4 := ⟨nt s.a, nt s.b, nt s.c, nt s.d⟩
theorem W4.not_ok (s : W4) : s.not.ok := by
  refine ⟨?_, ?_, ?_, ?_⟩ <;> simp only [W4.not, nt] <;> omega
theorem xor_all {x : Nat} (hx : x < 2 ^ 64) : (BitVec.ofInt 64 (x : Int) ^^^ BitVec.ofInt 64 18446744073709551615).toNat = nt x := by
  have h1 : BitVec.ofInt 64 18446744073709551615 = BitVec.allOnes 64 := by decide
  rw [h1, BitVec.xor_allOnes, BitVec.toNat_not, BitVec.ofInt_natCast, BitVec.toNat_ofNat, Nat.mod_eq_of_lt hx]
  rfl
theorem reads_nt {x : Nat} {k : Value → Prop} (hx : x < 2 ^ 64) : Reads Tryz.prog (Op.unary .xor (.int .u64 x)) h k = k (.int .u64 (nt x : Nat)) := by
  rw [reads_xor]
  have e : (BitVec.ofInt IntKind.u64.bits (x : Int) ^^^ BitVec.ofInt IntKind.u64.bits (if IntKind.u64.signed = true then -1 else IntKind.u64.max)).toNat = nt x := xor_all hx
  rw [e, wrap_u64 (by unfold nt; omega)]
theorem flat_vals (s : W4) : ∀ v ∈ s.vals.toArray.toList, flat v = true := by
  intro v hv
  simp only [W4.vals, List.mem_cons, List.not_mem_nil, or_false] at hv
  rcases hv with rfl | rfl | rfl | rfl <;> rfl
theorem not_spec {s : W4} (hs : s.ok) (hk : ∀ h', Fm h.size h.size h h' → R (.agg s.not.vals.toArray) h') : CallsH Tryz.prog 96 #[.agg s.vals.toArray] h R E := by
  refine C96 ?_
  unfold S96
  refine new_rule fun h1 a1 => alloc_rule Tryz.zero33 fun h2 a2 => ?_
  have s1 := a1.size
  have s2 := a2.size
  have f2 : Fm h.size h.size h h2 := (Fm.al a1 (Nat.le_refl _)).trans (Fm.al a2 (by omega))
  refine Loop1.fuel (fun k a h' => ∃ i : Nat, a = .int .i64 i ∧ i ≤ 4 ∧ k = 4 - i ∧ Fm h.size h.size h h' ∧ h'[h.size]? = some (.cells (s.notK i).vals.toArray 33 (0, 0)) ∧ ∃ c2, h'[h1.size]? = some (.cells c2 33 (0, 0)) ∧ c2.size = 4)
    (n := 4) ⟨0, rfl, by omega, by omega, f2, ?_, _, a2.at_, rfl⟩ fun k a h3 hi => ?_
  · rw [a2.old _ (by omega)]
    exact a1.at_
  obtain ⟨i, rfl, hi, rfl, f3, hb, c2, hb2, hc2⟩ := hi
  rw [reads_lt, boolV_bool]
  refine bcase_of (fun hc => ?_) (fun hc => ?_)
  · have hlt : i < 4 := by have := of_decide_eq_true hc; omega
    rw [reads_idxArr Tryz.underlying33 Tryz.size31 hlt, addr_add, Nat.zero_add, Nat.mul_one]
    have fin : ∀ x : Nat, x < 2 ^ 64 → (s.notK i).vals.toArray[i]? = some (.int .u64 x) → (s.notK (i + 1)).vals.toArray = (s.notK i).vals.toArray.setIfInBounds i (.int .u64 (nt x : Nat)) →
        pLoad Tryz.prog 31 (.pointer (some ⟨h.size, i, none⟩)) h3 fun t10 => Reads Tryz.prog (Op.unary .xor t10) h3 fun t11 => Reads Tryz.prog (Instr.indexAt 33 (.pointer (some ⟨h.size, 0, none⟩)) (.int .i64 i)) h3 fun t12 => pStore Tryz.prog 31 t12 t11 h3 fun h4 =>
          Reads Tryz.prog (binS .add 3 true (.int .i64 i) (.int .i64 1)) h4 fun t13 => ∃ j, j < 4 - i ∧ ∃ i : Nat, t13 = .int .i64 i ∧ i ≤ 4 ∧ j = 4 - i ∧ Fm h.size h.size h h4 ∧ h4[h.size]? = some (.cells (s.notK i).vals.toArray 33 (0, 0)) ∧ ∃ c2, h4[h1.size]? = some (.cells c2 33 (0, 0)) ∧ c2.size = 4 := by
      intro x hx hv he
      rw [pLoad_one (v := .int .u64 x) Tryz.agg31 (by rw [hcell_of hb]; exact hv), reads_nt hx, reads_idxArr Tryz.underlying33 Tryz.size31 hlt, addr_add, Nat.zero_add, Nat.mul_one]
      refine store1 hb Tryz.size31 rfl (by simp [W4.vals]; omega) fun h4 hu => ?_
      rw [reads_add, wrap_n1 _ (by omega)]
      refine ⟨4 - (i + 1), by omega, i + 1, rfl, by omega, rfl, f3.trans (Fm.upd hu (.inl (Nat.le_refl _))), ?_, c2, (hu.other _ (by omega)).trans hb2, hc2⟩
      rw [hu.same, he]
    obtain ⟨h1', h2', h3', h4'⟩ := hs
    rcases (by omega : i = 0 ∨ i = 1 ∨ i = 2 ∨ i = 3) with e | e | e | e
    · exact fin s.a h1' (by rw [e]; rfl) (by rw [e]; rfl)
    · exact fin s.b h2' (by rw [e]; rfl) (by rw [e]; rfl)
    · exact fin s.c h3' (by rw [e]; rfl) (by rw [e]; rfl)
    · exact fin s.d h4' (by rw [e]; rfl) (by rw [e]; rfl)
  · have hil : i = 4 := by have := of_decide_eq_false hc; omega
    subst hil
    refine load_all hb Tryz.agg33 ?_
    refine ret_full hb2 Tryz.size33 Tryz.agg33 hc2 (flat_vals _) fun h4 hu => ?_
    exact hk h4 (f3.trans (Fm.upd hu (.inl (by omega))))
def anyW : W4 := W4.zero.not
theorem any_spec (hk : ∀ h', Fm h.size h.size h h' → R (.agg anyW.vals.toArray) h') : CallsH Tryz.prog 66 #[] h R E := by
  refine C66 ?_
  unfold S66
  refine alloc_rule Tryz.zero33 fun h1 a1 => ?_
  have s1 := a1.size
  rw [Tryz.bd33]
  refine not_spec (s := W4.zero) W4.zero_ok fun h2 f2 => ?_
  have hb := (f2.same h.size (by omega) (by omega)).trans a1.at_
  refine ret_full hb Tryz.size33 Tryz.agg33 rfl (flat_vals _) fun h3 hu => ?_
  exact hk h3 (((Fm.al a1 (Nat.le_refl _)).trans (Fm.lift f2 (by omega) (by omega))).trans (Fm.upd hu (.inl (Nat.le_refl _))))

theorem pLoadS_row {P : Program} {T t : TypeId} {b off m : Nat} {cs : Array Value} {St : Heap → Prop} {k : Value → Prop} (hT : aggN P T = some (some m)) (hl : off + m ≤ cs.size) (hc : ∀ h, St h → h[b]? = some (.cells cs t (0, 0)))
    (hk : k (.agg ((cs.toList.drop off).take m).toArray)) : pLoadS P T (.pointer (some ⟨b, off, none⟩)) St k := by
  unfold pLoadS
  simp only [hT]
  exact ⟨_, fun h hs => hcells_of (hc h hs) m 0 off (by omega), hk⟩
theorem IsErr.fm {h' : Heap} {q lang code pos : Nat} {e : Value} (he : IsErr S h q lang code pos e) (f : ∀ k, k < h.size → q ≤ k → h'[k]? = h[k]?) : IsErr S h' q lang code pos e := by
  obtain ⟨a, b, ha, hb, rfl, e1, e2⟩ := he
  exact ⟨a, b, ha, hb, rfl, (f a (at_lt e1) ha).trans e1, (f b (at_lt e2) hb).trans e2⟩
theorem IsErr.less {q q' lang code pos : Nat} {e : Value} (he : IsErr S h q lang code pos e) (hq : q' ≤ q) : IsErr S h q' lang code pos e := by
  obtain ⟨a, b, ha, hb, h⟩ := he
  exact ⟨a, b, by omega, by omega, h⟩
theorem at_spec {t : TypeId} {u : Value} {pos : Nat} (hk : ∀ h', Al h h' (.cells #[.iface t u, .int .i64 pos] 80 (0, 0)) → R (.iface 77 (ptr h.size)) h') : CallsH Tryz.prog 26 #[.iface t u, .int .i64 pos] h R E := by
  refine C26 ?_
  unfold S26
  simp only [boolV_bool, bcase_true, bcase_false, need, Tryz.eql26_s, Tryz.eql26_n, Tryz.bd80_0_1]
  refine new_rule fun h1 a1 => ?_
  simp only [reads_mkiface Tryz.underlying77 (by simp)]
  exact hk h1 a1
theorem in_spec {t : TypeId} {u : Value} {lang : Nat} (hk : ∀ h', Al h h' (.cells #[.iface t u, .int .i64 lang] 84 (0, 0)) → R (.iface 81 (ptr h.size)) h') : CallsH Tryz.prog 25 #[.iface t u, .int .i64 lang] h R E := by
  refine C25 ?_
  unfold S25
  simp only [boolV_bool, bcase_true, bcase_false, need, Tryz.eql26_s, Tryz.eql26_n, Tryz.bd84_0_1]
  refine new_rule fun h1 a1 => ?_
  simp only [reads_mkiface Tryz.underlying81 (by simp)]
  exact hk h1 a1
end Rt
end Go.Proofs

set_option maxRecDepth 100000
namespace Go.Proofs
open Go.Vcg Go.Extern
namespace Rt
attribute [local congr] Reads.congr ReadsS.congr pLoad.congr pLoadS.congr pStore.congr Runs.congr CallsH.congr bcase.congr boolV.congr Stable.congr pAlloc.congr
variable {S : Glb} {n : Nat} {h : Heap} {r : Nat} {R : Value → Heap → Prop} {E : List PanicEntry → Heap → Prop}

/-! ### Sets together -/
def W4.or (s t : W4) : W4 := ⟨s.a ||| t.a, s.b ||| t.b, s.c ||| t.c, s.d ||| t.d⟩
theorem W4.or_ok {s t : W4} (hs : s.ok) (ht : t.ok) : (s.or t).ok := ⟨Nat.or_lt_two_pow hs.1 ht.1, Nat.or_lt_two_pow hs.2.1 ht.2.1, Nat.or_lt_two_pow hs.2.2.1 ht.2.2.1, Nat.or_lt_two_pow hs.2.2.2 ht.2.2.2⟩
def W4.orK (s t : W4) (i : Nat) : W4 := ⟨if 0 < i then s.a ||| t.a else s.a, if 1 < i then s.b ||| t.b else s.b, if 2 < i then s.c ||| t.c else s.c, if 3 < i then s.d ||| t.d else s.d⟩
def unionM (l : List W4) : W4 := l.foldl W4.or .zero
theorem or_val {x y : Nat} (hx : x < 2 ^ 64) (hy : y < 2 ^ 64) : IntKind.u64.wrap (BitVec.ofInt IntKind.u64.bits (x : Int) ||| BitVec.ofInt IntKind.u64.bits (y : Int)).toNat = ((x ||| y : Nat) : Int) := by
  have e2 : ∀ y : Nat, y < 2 ^ 64 → (BitVec.ofInt IntKind.u64.bits (y : Int)).toNat = y := by
    intro y hy
    simp only [IntKind.bits, BitVec.ofInt_natCast, BitVec.toNat_ofNat]
    exact Nat.mod_eq_of_lt hy
  rw [BitVec.toNat_or, e2 x hx, e2 _ hy]
  exact u64_wrap (Nat.or_lt_two_pow hx hy)
def setRow (l : List W4) : List Value := l.flatMap W4.vals
theorem setRow_len : ∀ l : List W4, (setRow l).length = l.length * 4
  | [] => rfl
  | s :: l => by have := setRow_len l; simp only [setRow, List.flatMap_cons, List.length_append, List.length_cons] at *; rw [this]; simp [W4.vals]; omega
theorem setRow_get : ∀ (l : List W4) (i : Nat) (hi : i < l.length), ((setRow l).drop (i * 4)).take 4 = l[i].vals
  | s :: l, 0, _ => by simp [setRow, W4.vals]
  | s :: l, i + 1, hi => by
    have := setRow_get l i (by simpa using hi)
    have e : (setRow (s :: l)) = s.vals ++ setRow l := rfl
    rw [e, show (i + 1) * 4 = s.vals.length + i * 4 by simp [W4.vals]; omega, List.drop_append, List.drop_eq_nil_of_le (by omega), List.nil_append, Nat.add_sub_cancel_left]
    simpa using this
theorem unionM_ok {l : List W4} (h : ∀ s ∈ l, s.ok) : (unionM l).ok := by
  unfold unionM
  have : ∀ (l : List W4) (s : W4), s.ok → (∀ s ∈ l, s.ok) → (l.foldl W4.or s).ok := by
    intro l
    induction l with
    | nil => intro s hs _; exact hs
    | cons x l ih => intro s hs hl; exact ih _ (W4.or_ok hs (hl x (List.mem_cons_self ..))) fun y hy => hl y (List.mem_cons_of_mem _ hy)
  exact this l _ W4.zero_ok h
theorem sets_rule {vs : List W4} {parts : Array (Nat × Value)} {K : Value → Heap → Prop} (hp : parts.toList = ((vs.map fun s => Value.agg s.vals.toArray).zipIdx 0).map fun x => (x.2, x.1)) (h0 : vs ≠ []) (hl : vs.length ≤ 1000)
    (hk : ∀ h', Al h h' (.cells (setRow vs).toArray 33 (0, 0)) → K (.slice (some ⟨h.size, 0, none⟩) vs.length vs.length) h') : Runs Tryz.prog (vS (Instr.buildSlice 195 vs.length parts)) h K E := by
  intro w hw
  subst hw
  obtain ⟨i, hi, hz, hsz, _⟩ := Tryz.info33
  have hlen := List.length_pos_iff.2 h0
  have hf := Go.Great.fill_whole (s := 4) (by omega) (vs.map fun s => Value.agg s.vals.toArray) ((Array.range (vs.length * 4)).map ((Value.agg #[.int .u64 0, .int .u64 0, .int .u64 0, .int .u64 0]).cells[· % (Value.agg #[.int .u64 0, .int .u64 0, .int .u64 0, .int .u64 0]).cells.size]!)) (by
    intro v hv
    obtain ⟨s, _, rfl⟩ := List.mem_map.1 hv
    rfl) (by simp)
  have e := run_buildSlice (P := Tryz.prog) w 195 33 vs.length parts _ i _ Tryz.underlying195 hi hz (by rw [hsz]; omega) (by rw [hsz]; omega) (by rw [hsz, hp]; exact hf)
  have er : ((vs.map fun s => Value.agg s.vals.toArray).flatMap fun v => v.cells.toList) = setRow vs := by
    simp only [setRow, List.flatMap_map]
    rfl
  rw [er] at e
  simp only [vS, Sem.run_bind, e, Result.andThen_ok, Sem.run_pure, uponH]
  exact ⟨⟨rfl, rfl, rfl⟩, hk _ (Al.push ..)⟩
theorem union_spec {vs : List W4} {b c : Nat} (hb : h[b]? = some (.cells (setRow vs).toArray 33 (0, 0))) (hv : ∀ s ∈ vs, s.ok) (hl : vs.length ≤ 1000) (hk : ∀ h', Fm h.size h.size h h' → R (.agg (unionM vs).vals.toArray) h') :
    CallsH Tryz.prog 138 #[.slice (some ⟨b, 0, none⟩) vs.length c] h R E := by
  refine C138 ?_
  unfold S138
  refine alloc_rule Tryz.zero33 fun h1 a1 => alloc_rule Tryz.zero33 fun h2 a2 => ?_
  have s1 := a1.size
  have s2 := a2.size
  have lb := at_lt hb
  have f2 : Fm h.size h.size h h2 := (Fm.al a1 (Nat.le_refl _)).trans (Fm.al a2 (by omega))
  rw [reads_rlen Tryz.underlying195]
  refine Loop1.fuel (fun k a h' => ∃ i : Nat, a = .int .i64 i ∧ i ≤ vs.length ∧ k = vs.length - i ∧ Fm h.size h.size h h' ∧ h2.size ≤ h'.size ∧ h'[h1.size]? = some (.cells (unionM (vs.take i)).vals.toArray 33 (0, 0)) ∧ ∃ c2, h'[h.size]? = some (.cells c2 33 (0, 0)) ∧ c2.size = 4)
    (n := vs.length) ⟨0, rfl, by omega, by simp, f2, Nat.le_refl _, a2.at_, _, (a2.old _ (by omega)).trans a1.at_, rfl⟩ fun k a h3 hi => ?_
  obtain ⟨i, rfl, hi, rfl, f3, s3, b3, c2, d3, hc2⟩ := hi
  rw [reads_lt, dec_nn_lt, boolV_bool]
  refine bcase_of (fun hc => ?_) (fun hc => ?_)
  · have hlt : i < vs.length := of_decide_eq_true hc
    rw [reads_idxRow Tryz.underlying195 Tryz.size33 hlt, addr_add, Nat.zero_add]
    refine load_row ((f3.same b lb (by omega)).trans hb) Tryz.agg33 (by simp [setRow_len]; omega) ?_
    rw [List.toList_toArray, setRow_get vs i hlt]
    refine alloc_rule Tryz.zero33 fun h4 a4 => ?_
    have s4 := a4.size
    refine storeFull a4.at_ (xs := vs[i].vals.toArray) Tryz.size33 rfl (flat_vals _) fun h5 u5 => ?_
    have s5 := u5.size
    have f5 : Fm h.size h.size h h5 := (f3.trans (Fm.al a4 (by omega))).trans (Fm.upd u5 (.inl (by omega)))
    have b5 := (u5.other h1.size (by omega)).trans ((a4.old _ (by omega)).trans b3)
    have d5 := (u5.other h.size (by omega)).trans ((a4.old _ (by omega)).trans d3)
    have hok : (unionM (vs.take i)).ok := unionM_ok fun s hs => hv s (List.mem_of_mem_take hs)
    have hti : vs[i].ok := hv _ (List.getElem_mem hlt)
    have hnext : unionM (vs.take (i + 1)) = (unionM (vs.take i)).or vs[i] := by
      unfold unionM
      rw [List.take_add_one, List.getElem?_eq_getElem hlt, List.foldl_append]
      rfl
    generalize unionM (vs.take i) = s at *
    generalize vs[i] = t at *
    refine Loop1.fuel (fun k a h' => ∃ j : Nat, a = .int .i64 j ∧ j ≤ 4 ∧ k = 4 - j ∧ Fm h.size h.size h h' ∧ h2.size ≤ h'.size ∧ h'[h1.size]? = some (.cells (s.orK t j).vals.toArray 33 (0, 0)) ∧ h'[h3.size]? = some (.cells t.vals.toArray 33 (0, 0)) ∧ h'[h.size]? = some (.cells c2 33 (0, 0)))
      (n := 4) ⟨0, rfl, by omega, by omega, f5, by omega, b5, u5.same, d5⟩ fun k a h6 hj => ?_
    obtain ⟨j, rfl, hj, rfl, f6, s6, b6, e6, d6⟩ := hj
    rw [reads_lt, boolV_bool]
    refine bcase_of (fun hc => ?_) (fun hc => ?_)
    · have hj4 : j < 4 := by have := of_decide_eq_true hc; omega
      rw [reads_idxArr Tryz.underlying33 Tryz.size31 hj4, addr_add, Nat.zero_add, Nat.mul_one]
      have fin : ∀ x y : Nat, x < 2 ^ 64 → y < 2 ^ 64 → (s.orK t j).vals.toArray[j]? = some (.int .u64 x) → t.vals.toArray[j]? = some (.int .u64 y) → (s.orK t (j + 1)).vals.toArray = (s.orK t j).vals.toArray.setIfInBounds j (.int .u64 (x ||| y : Nat)) →
          pLoad Tryz.prog 31 (.pointer (some ⟨h1.size, j, none⟩)) h6 fun t18 => Reads Tryz.prog (Instr.indexAt 33 (.pointer (some ⟨h3.size, 0, none⟩)) (.int .i64 j)) h6 fun t20 => pLoad Tryz.prog 31 t20 h6 fun t21 => Reads Tryz.prog (binS .or 31 false t18 t21) h6 fun t22 =>
            Reads Tryz.prog (Instr.indexAt 33 (.pointer (some ⟨h1.size, 0, none⟩)) (.int .i64 j)) h6 fun t23 => (pStore Tryz.prog 31 t23 t22 h6 fun h7 => True ∧ (Reads Tryz.prog (binS .add 3 true (.int .i64 j) (.int .i64 1)) h7 fun t24 =>
              ∃ q, q < 4 - j ∧ ∃ j : Nat, t24 = .int .i64 j ∧ j ≤ 4 ∧ q = 4 - j ∧ Fm h.size h.size h h7 ∧ h2.size ≤ h7.size ∧ h7[h1.size]? = some (.cells (s.orK t j).vals.toArray 33 (0, 0)) ∧ h7[h3.size]? = some (.cells t.vals.toArray 33 (0, 0)) ∧ h7[h.size]? = some (.cells c2 33 (0, 0)))) ∧ True := by
        intro x y hx hy h1' h2' h3'
        rw [pLoad_one (v := .int .u64 x) Tryz.agg31 (by rw [hcell_of b6]; exact h1'), reads_idxArr Tryz.underlying33 Tryz.size31 hj4, addr_add, Nat.zero_add, Nat.mul_one, pLoad_one (v := .int .u64 y) Tryz.agg31 (by rw [hcell_of e6]; exact h2'),
          reads_or, or_val hx hy, reads_idxArr Tryz.underlying33 Tryz.size31 hj4, addr_add, Nat.zero_add, Nat.mul_one]
        refine ⟨?_, trivial⟩
        refine store1 b6 Tryz.size31 rfl (by simp [W4.vals]; omega) fun h7 u7 => ?_
        have s7 := u7.size
        refine ⟨trivial, ?_⟩
        rw [reads_add, wrap_n1 _ (by omega)]
        refine ⟨4 - (j + 1), by omega, j + 1, rfl, by omega, rfl, f6.trans (Fm.upd u7 (.inl (by omega))), by omega, ?_, (u7.other _ (by omega)).trans e6, (u7.other _ (by omega)).trans d6⟩
        rw [u7.same, h3']
      rcases (by omega : j = 0 ∨ j = 1 ∨ j = 2 ∨ j = 3) with e | e | e | e
      · exact fin s.a t.a hok.1 hti.1 (by rw [e]; rfl) (by rw [e]; rfl) (by rw [e]; rfl)
      · exact fin s.b t.b hok.2.1 hti.2.1 (by rw [e]; rfl) (by rw [e]; rfl) (by rw [e]; rfl)
      · exact fin s.c t.c hok.2.2.1 hti.2.2.1 (by rw [e]; rfl) (by rw [e]; rfl) (by rw [e]; rfl)
      · exact fin s.d t.d hok.2.2.2 hti.2.2.2 (by rw [e]; rfl) (by rw [e]; rfl) (by rw [e]; rfl)
    · have hj4 : j = 4 := by have := of_decide_eq_false hc; omega
      subst hj4
      rw [reads_add, wrap_n1 _ (by omega)]
      exact ⟨vs.length - (i + 1), by omega, i + 1, rfl, by omega, rfl, f6, s6, by rw [hnext]; exact b6, c2, d6, hc2⟩
  · have hil : i = vs.length := by have := of_decide_eq_false hc; omega
    subst hil
    rw [List.take_length] at b3
    refine load_all b3 Tryz.agg33 ?_
    refine ret_full d3 Tryz.size33 Tryz.agg33 hc2 (flat_vals _) fun h4 u4 => ?_
    exact hk h4 (f3.trans (Fm.upd u4 (.inl (Nat.le_refl _))))

def rangeW (lo hi : Nat) : W4 := (List.range' lo (hi + 1 - lo)).foldl (fun s b => s.put (u8 b)) .zero
theorem fold_ok : ∀ (l : List Nat) {s : W4}, s.ok → (l.foldl (fun s b => s.put (u8 b)) s).ok
  | [], s, h => h
  | c :: l, s, h => fold_ok l (W4.put_ok h (u8 c))
theorem rangeW_ok (lo hi : Nat) : (rangeW lo hi).ok := fold_ok _ W4.zero_ok
theorem range_spec {lo hi : UInt8} (hk : ∀ h', Fm h.size h.size h h' → R (.agg (rangeW lo.toNat hi.toNat).vals.toArray) h') : CallsH Tryz.prog 141 #[.int .u8 lo.toNat, .int .u8 hi.toNat] h R E := by
  have hlo := lo.toNat_lt
  have hhi := hi.toNat_lt
  refine C141 ?_
  unfold S141
  refine alloc_rule Tryz.zero33 fun h1 a1 => alloc_rule Tryz.zero33 fun h2 a2 => ?_
  have s1 := a1.size
  have s2 := a2.size
  have f2 : Fm h.size h.size h h2 := (Fm.al a1 (Nat.le_refl _)).trans (Fm.al a2 (by omega))
  have cv : ∀ {h' : Heap} {x : Nat} {k : Value → Prop}, x < 256 → Reads Tryz.prog (convert 5 3 (.int .u8 x)) h' k = k (.int .i64 x) := fun hx => by
    rw [reads_conv_int Tryz.underlying5 Tryz.underlying3, wrapN _ _ rfl (by omega)]
  rw [cv hlo]
  refine Loop1.fuel (fun k a h' => ∃ i : Nat, a = .int .i64 i ∧ lo.toNat ≤ i ∧ k + i = 300 ∧ Fm h.size h.size h h' ∧ i ≤ 256 ∧ (i ≤ lo.toNat ∨ i ≤ hi.toNat + 1) ∧ h'.size = h2.size ∧ h'[h1.size]? = some (.cells ((List.range' lo.toNat (i - lo.toNat)).foldl (fun s b => s.put (u8 b)) W4.zero).vals.toArray 33 (0, 0)) ∧ h'[h.size]? = h2[h.size]?)
    (n := 300 - lo.toNat) ⟨lo.toNat, rfl, Nat.le_refl _, by omega, f2, by omega, .inl (Nat.le_refl _), rfl, by rw [Nat.sub_self]; exact a2.at_, rfl⟩ fun k a h3 hi' => ?_
  obtain ⟨i, rfl, hli, hki, f3, hi256, hor, s3, b3, d3⟩ := hi'
  rw [cv hhi, reads_le, dec_nn_le, boolV_bool]
  refine bcase_of (fun hc => ?_) (fun hc => ?_)
  · have hle : i ≤ hi.toNat := of_decide_eq_true hc
    rw [reads_conv_int Tryz.underlying3 Tryz.underlying5, wrap_u8 (by omega), val_u8 (by omega)]
    refine put_spec (fold_ok _ W4.zero_ok) b3 fun h4 u4 => ?_
    have s4 := u4.size
    rw [reads_add, wrap_n1 _ (by omega)]
    refine ⟨k - 1, by omega, i + 1, rfl, by omega, by omega, f3.trans (Fm.upd u4 (.inl (by omega))), by omega, .inr (by omega), by omega, ?_, (u4.other _ (by omega)).trans d3⟩
    rw [u4.same, show i + 1 - lo.toNat = (i - lo.toNat) + 1 by omega, List.range'_concat, List.foldl_append]
    simp only [List.foldl_cons, List.foldl_nil, Nat.one_mul]
    rw [show lo.toNat + (i - lo.toNat) = i by omega]
  · have hgt : hi.toNat < i := by have := of_decide_eq_false hc; omega
    refine load_all b3 Tryz.agg33 ?_
    refine ret_full (d3.trans ((a2.old _ (by omega)).trans a1.at_)) Tryz.size33 Tryz.agg33 rfl (flat_vals _) fun h4 u4 => ?_
    have := hk h4 (f3.trans (Fm.upd u4 (.inl (Nat.le_refl _))))
    unfold rangeW at this
    have e : i - lo.toNat = hi.toNat + 1 - lo.toNat := by omega
    rw [e]
    exact this
end Rt
end Go.Proofs
