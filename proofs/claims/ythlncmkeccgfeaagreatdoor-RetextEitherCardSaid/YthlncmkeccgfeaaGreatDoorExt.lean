/- A part of the proofs over this seat: Ext. -/
import Derived.Test.YthlncmkeccgfeaaGreatDoorPar
import Derived.Laws.StandIn
import Derived.Lib.Bytealg
set_option linter.unusedVariables false
set_option linter.unusedSimpArgs false
set_option maxRecDepth 100000
namespace Go.Proofs
open Go.Vcg
namespace Rt
attribute [local congr] Reads.congr ReadsS.congr pLoad.congr pLoadS.congr pStore.congr Runs.congr CallsH.congr bcase.congr boolV.congr Stable.congr pAlloc.congr
variable {S : Glb} {n : Nat} {h : Heap} {r : Nat} {bv : Value} {l : List UInt8} {p : Nat} {ext : Bool} {op gr : Nat} {R : Value → Heap → Prop} {E : List PanicEntry → Heap → Prop}

/-! ### The list of what was read -/
def Kids (h : Heap) (n : Nat) (v : Value) (ts : List T) : Prop := ∃ xs, Owns h n 36 9 v ts.length xs ∧ IsRow h (fun b => n ≤ b ∧ v.ownBlock ≠ some b) ts xs
theorem Kids.nil (h : Heap) (n : Nat) : Kids h n (.slice none 0 0) [] := ⟨[], Owns.nil .., by simp only [IsRow]⟩
theorem Kids.frame {h' : Heap} {v : Value} {ts : List T} (k : Kids h n v ts) (hs : ∀ b, n ≤ b → b < h.size → h'[b]? = h[b]?) : Kids h' n v ts := by
  obtain ⟨xs, ⟨h1, h2⟩, h3⟩ := k
  refine ⟨xs, ⟨h1, h2.imp id ?_⟩, h3.frame fun b hb hlt => ⟨hb, hs b hb.1 hlt⟩⟩
  rintro ⟨g, cap, cur, e1, e2, e3, e4⟩
  exact ⟨g, cap, cur, e1, e2, (hs g e2 (at_lt e3)).trans e3, e4⟩
theorem Kids.fm {h' : Heap} {v : Value} {ts : List T} (k : Kids h n v ts) (f : Fm h.size r h h') (hr : r < n) : Kids h' n v ts :=
  k.frame fun b h1 h2 => f.same b h2 (by omega)
/-- what a call has made does not lie in the list's row -/
theorem Kids.apart {h' : Heap} {v : Value} {ts : List T} (k : Kids h n v ts) (hn : n ≤ h.size) {t : T} {vs : List Value} (ht : IsRe h' (fun b => h.size ≤ b) t vs) : IsRe h' (fun b => n ≤ b ∧ v.ownBlock ≠ some b) t vs := by
  refine ht.frame fun b hb _ => ⟨⟨Nat.le_trans hn hb, fun e => ?_⟩, rfl⟩
  obtain ⟨xs, ⟨h1, h2⟩, h3⟩ := k
  rcases h2 with ⟨rfl, _⟩ | ⟨g, cap, cur, rfl, e2, e3, e4⟩
  · cases e
  · have : g = b := by simpa [Value.ownBlock] using e
    have := at_lt e3
    omega

theorem push_append {v : Value} {ts : List T} {t : T} {vs : List Value} {K : Value → Heap → Prop} (k : Kids h n v ts) (ht : IsRe h (fun b => n ≤ b ∧ v.ownBlock ≠ some b) t vs) (hn : n ≤ h.size) (hlen : ts.length ≤ 1000000)
    {h1 : Heap} (a1 : Al h h1 (.cells vs.toArray 36 (0, 0)))
    (hK : ∀ v' h', Kids h' n v' (ts ++ [t]) → (∀ r, Fm n r h h') → K v' h') :
    Runs Tryz.prog (builtin .append #[34, 34] 34 #[false, false] #[v, .slice (some ⟨h.size, 0, none⟩) 1 1]) h1 K E := by
  have hx : ∀ b, n ≤ b ∧ v.ownBlock ≠ some b → b < h.size → (n ≤ b ∧ v.ownBlock ≠ some b) ∧ h1[b]? = h[b]? := fun b hb hlt => ⟨hb, a1.old b hlt⟩
  have k1 := k.frame (h' := h1) fun b _ hlt => a1.old b hlt
  obtain ⟨xs, ho, hrow⟩ := k1
  refine runs_append' (size := 9) (bytes := 88) (news := vs) Tryz.info36 Tryz.underlying34 rfl (by omega) ho (by rw [ht.len]) ?_ ?_ (by simp [maxLen]; omega) (by omega) (by rw [a1.size]; omega) fun v' h2 ho' hg hnil hat => ?_
  · intro j u hj
    rw [addr_add, Nat.zero_add, hcell_of a1.at_]
    simpa [Value.cells] using hj
  · intro u hu
    have := ht.flat u hu
    cases u <;> first | rfl | (simp [Go.Vcg.flat] at this)
  · refine hK v' h2 ⟨xs ++ vs, by simpa using ho', ?_⟩ fun r => ?_
    · have keep : ∀ b, n ≤ b ∧ v.ownBlock ≠ some b → b < h1.size → b < h.size → (n ≤ b ∧ v'.ownBlock ≠ some b) ∧ h2[b]? = h1[b]? := by
        intro b hb hlt hlt0
        refine ⟨⟨hb.1, fun e => ?_⟩, hg.block b hlt (fun e => hb.2 e.symm)⟩
        rcases hat with h3 | h3
        · exact hb.2 (h3 ▸ e)
        · rw [h3] at e
          have : h1.size = b := by simpa using e
          have := a1.size
          omega
      have e1 : IsRow h2 (fun b => n ≤ b ∧ v'.ownBlock ≠ some b) ts xs := by
        have hrow0 : IsRow h (fun b => n ≤ b ∧ v.ownBlock ≠ some b) ts xs := by
          obtain ⟨ys, ho0, hr0⟩ := k
          have : ys = xs := by
            rcases ho0.2 with ⟨e, hz⟩ | ⟨g, cap, cur, e, e2, e3, e4, e5, e6, e7⟩
            · have l1 := ho0.1; have l2 := ho.1
              rw [hz] at l1 l2
              exact (List.length_eq_zero_iff.1 (by simpa using l1)).trans (List.length_eq_zero_iff.1 (by simpa using l2)).symm
            · rcases ho.2 with ⟨e', hz⟩ | ⟨g', cap', cur', e', e2', e3', e4', e5', e6', e7'⟩
              · rw [e] at e'; cases e'
              · rw [e] at e'
                cases e'
                rw [a1.old _ (at_lt e3), e3] at e3'
                cases e3'
                rw [← e7, ← e7']
          exact this ▸ hr0
        exact hrow0.frame fun b hb hlt => by
          have h3 := keep b hb (by rw [a1.size]; omega) hlt
          exact ⟨h3.1, h3.2.trans (a1.old b hlt)⟩
      refine IsRow.snoc (ht.frame fun b hb hlt => ?_) e1
      have h3 := keep b hb (by rw [a1.size]; omega) hlt
      exact ⟨h3.1, h3.2.trans (a1.old b hlt)⟩
    · refine ⟨by have := hg.size; rw [a1.size] at this; omega, fun b hb _ => ?_⟩
      rw [hg.block b (by rw [a1.size]; omega) ?_, a1.old b (by omega)]
      intro e
      rcases ho.2 with ⟨rfl, _⟩ | ⟨g, cap, cur, rfl, e2, _⟩
      · cases e
      · have : b = g := by simpa [Value.ownBlock] using e
        omega

theorem push_kid {v : Value} {ts : List T} {t : T} {vs : List Value} {K : Value → Heap → Prop} (k : Kids h n v ts) (ht : IsRe h (fun b => n ≤ b ∧ v.ownBlock ≠ some b) t vs) (hn : n ≤ h.size) (hlen : ts.length ≤ 1000000)
    (hK : ∀ v' h', Kids h' n v' (ts ++ [t]) → (∀ r, Fm n r h h') → K v' h') :
    Runs Tryz.prog (vS (Instr.buildSlice 34 1 #[(0, .agg vs.toArray)])) h (fun s h1 => Runs Tryz.prog (builtin .append #[34, 34] 34 #[false, false] #[v, s]) h1 K E) E :=
  slice1_rule Tryz.info36 Tryz.underlying34 (by simp [Value.cells, ht.len]) (by omega) (by omega) fun h1 a1 => push_append k ht hn hlen a1 hK

def joinM (kind : Nat) : List T → T
  | [t] => t
  | ts => .node kind .zero 0 0 0 ts
theorem flat_reL {k : Nat} {s : W4} {mn mx : Int} {g : Nat} {kv : Value} (hk : flat kv = true) : ∀ v ∈ (reL k s mn mx g kv).toArray.toList, flat v = true := by
  intro v hv
  simp only [reL, List.mem_cons, List.not_mem_nil, or_false] at hv
  rcases hv with rfl | rfl | rfl | rfl | rfl | rfl | rfl | rfl | rfl <;> first | rfl | exact hk

theorem joined_spec {v : Value} {ts : List T} {kind : Nat} (k : Kids h n v ts) (hn : n ≤ h.size) (hne : ts ≠ [])
    (hK : ∀ h' vs, Fm h.size h.size h h' → IsRe h' (fun b => n ≤ b) (joinM kind ts) vs → R (.agg vs.toArray) h') : CallsH Tryz.prog 80 #[.int .i64 kind, v] h R E := by
  refine C80 ?_
  unfold S80
  obtain ⟨xs, ⟨hl, ho⟩, hrow⟩ := k
  rcases ho with ⟨_, hz⟩ | ⟨g, cap, cur, rfl, e2, e3, e4, e5, e6, e7⟩
  · exact absurd (List.length_eq_zero_iff.1 hz) hne
  refine alloc_rule Tryz.zero36 fun h1 a1 => ?_
  have g1 := (a1.old g (at_lt e3)).trans e3
  have f1 : Fm h.size h.size h h1 := Fm.al a1 (Nat.le_refl _)
  simp only [boolV_bool, bcase_true, bcase_false, need, Tryz.zero36, reads_eq, Tryz.agg36, Tryz.size36, Tryz.bd36_0_5, reads_rlen Tryz.underlying34]
  refine bcase_of (fun hc => ?_) (fun hc => ?_)
  · have h1' : ts.length = 1 := by have := of_decide_eq_true hc; omega
    obtain ⟨t, rfl⟩ := List.length_eq_one_iff.1 h1'
    rw [show Value.int IntKind.i64 0 = .int .i64 ((0 : Nat) : Int) from rfl, reads_idxRow Tryz.underlying34 Tryz.size36 (by simp)]
    rw [addr_add]
    simp only [List.length_cons, List.length_nil, Nat.zero_add, Nat.one_mul] at *
    refine load_row g1 Tryz.agg36 (by omega) ?_
    have hx : (cur.toList.drop (0 * 9)).take 9 = xs := by simpa using e7
    rw [Nat.zero_mul] at hx ⊢
    rw [hx]
    rw [IsRow.one] at hrow
    have ht := hrow
    refine ret_full a1.at_ (xs := xs.toArray) (by rw [Tryz.size36]; simp [ht.len]) (by rw [Tryz.agg36]; simp [ht.len]) (by simp [ht.len, Value.cells]) (by simpa using ht.flat) fun h2 hu => ?_
    refine hK h2 xs (f1.trans (Fm.upd hu (.inl (Nat.le_refl _)))) (ht.frame fun b hb hlt => ⟨hb.1, ?_⟩)
    rw [hu.other b (by omega), a1.old b hlt]
  · have h2' : ts.length ≠ 1 := by have := of_decide_eq_false hc; omega
    have hj : joinM kind ts = .node kind .zero 0 0 0 ts := by
      unfold joinM
      split
      · rename_i t; exact absurd rfl h2'
      · rfl
    rw [hj] at hK
    refine ret_full a1.at_ (xs := (reL kind .zero 0 0 0 (.slice (some ⟨g, 0, none⟩) ts.length cap)).toArray) Tryz.size36 Tryz.agg36 rfl (flat_reL rfl) fun h2 hu => ?_
    refine hK h2 _ (f1.trans (Fm.upd hu (.inl (Nat.le_refl _)))) ?_
    simp only [IsRe]
    have hgs := at_lt e3
    refine ⟨_, rfl, .inr ⟨g, cap, cur, e2, rfl, e4, by rw [e6]; omega, ?_, ?_⟩⟩
    · rw [hu.other g (by omega)]; exact g1
    · rw [e7]
      exact hrow.frame fun b hb hlt => ⟨hb.1, by rw [hu.other b (by omega), a1.old b hlt]⟩

/-- one that has one -/
theorem IsRe.kid {b : Nat} {Q : Nat → Prop} {t : T} {vs : List Value} {k g : Nat} {mn mx : Int} (hb : h[b]? = some (.cells vs.toArray 36 (0, 0))) (hq : Q b) (ht : IsRe h Q t vs) :
    IsRe h Q (.node k .zero mn mx g [t]) (reL k .zero mn mx g (.slice (some ⟨b, 0, none⟩) 1 1)) := by
  simp only [IsRe]
  refine ⟨_, rfl, .inr ⟨b, 1, vs.toArray, hq, rfl, by simp, by simp [ht.len], hb, ?_⟩⟩
  rw [IsRow.one]
  simpa [← ht.len] using ht

theorem rep_spec {t : T} {vs : List Value} {mn mx : Int} {Q : Nat → Prop} (ht : IsRe h Q t vs)
    (hK : ∀ h' vs', Fm h.size h.size h h' → IsRe h' (fun b => Q b ∨ h.size ≤ b) (.node 6 .zero mn mx 0 [t]) vs' → R (.agg vs'.toArray) h') : CallsH Tryz.prog 83 #[.agg vs.toArray, .int .i64 mn, .int .i64 mx] h R E := by
  refine C83 ?_
  unfold S83
  refine new_rule fun h1 a1 => alloc_rule Tryz.zero36 fun h2 a2 => ?_
  have s1 := a1.size
  have s2 := a2.size
  have b1 := (a2.old h.size (by omega)).trans a1.at_
  refine load_all b1 (by rw [Tryz.agg36]; simp [Value.cells, ht.len]) ?_
  refine slice1_rule Tryz.info36 Tryz.underlying34 (by simp [Value.cells, ht.len]) (by omega) (by omega) fun h3 a3 => ?_
  have s3 := a3.size
  simp only [boolV_bool, bcase_true, bcase_false, need, Tryz.zero36, Tryz.agg36, Tryz.bd36_0_2_3_5, Tryz.size36]
  refine ret_full ((a3.old h1.size (by omega)).trans a2.at_) (xs := (reL 6 .zero mn mx 0 (.slice (some ⟨h2.size, 0, none⟩) 1 1)).toArray) Tryz.size36 Tryz.agg36 rfl (flat_reL rfl) fun h4 hu => ?_
  have hold : ∀ b, b < h.size → h4[b]? = h[b]? := fun b hb => by rw [hu.other b (by omega), a3.old b (by omega), a2.old b (by omega), a1.old b hb]
  refine hK h4 _ ⟨by rw [hu.size]; omega, fun b hb _ => hold b hb⟩ ?_
  refine IsRe.kid (vs := vs) ((hu.other h2.size (by omega)).trans a3.at_) (.inr (by omega)) (ht.frame fun b hb hlt => ⟨.inl hb, hold b hlt⟩)

/-! ### What stands behind a backslash -/
inductive Res (α : Type) where
  | out
  | bad (code pos : Nat)
  | ok (x : α)

theorem sindex_spec {s : List UInt8} {c : UInt8} (hk : R (.int .i64 (Go.Lib.indexByte s c)) h) : CallsH Tryz.prog 24 #[str s, .int .u8 c.toNat] h R E := by
  refine C24 ?_
  unfold S24
  refine C49 ?_
  unfold S49
  intro w hw
  subst hw
  have hr := run_callFunc_indexByte (P := Tryz.prog) (f := 74) (fn := Tryz.f74) Tryz.func74 (by kernel_rfl) (by kernel_rfl) (by kernel_rfl) (by kernel_rfl) #[str s, .int .u8 c.toNat] w
  have e := Go.Lib.run_indexByteString (P := Tryz.prog) ⟨s.toArray⟩ c.toNat w
  unfold str at *
  rw [e] at hr
  have hc : ((c.toNat : Int)).toNat.toUInt8 = c := by simp
  rw [hc] at hr
  simp [Deferred.ofValue, invoke, hr, uponH, Same.refl]
  exact hk
theorem index_ge {s : List UInt8} {c : UInt8} : decide ((0 : Int) ≤ Go.Lib.indexByte s c) = s.contains c := by
  induction s with
  | nil => rfl
  | cons b s ih =>
    have hge := Go.Lib.indexByte_ge s c
    unfold Go.Lib.indexByte
    by_cases hb : b = c
    · subst hb; simp
    · have hb' : (b == c) = false := by simpa using hb
      have hc' : (c == b) = false := by simpa using Ne.symm hb
      rw [hb', List.contains_cons, hc', Bool.false_or, ← ih]
      by_cases h1 : Go.Lib.indexByte s c = -1
      · simp [h1]
      · have h2 : (Go.Lib.indexByte s c == -1) = false := by simpa using h1
        simp only [h2, Bool.false_eq_true, if_false]
        have : (0 : Int) ≤ Go.Lib.indexByte s c := by omega
        simp [this]; omega
def escM (l signs : List UInt8) (p : Nat) : Res (T × Nat) :=
  match l[p + 1]? with
  | none => .bad 10 p
  | some c => if c = 110 then .ok (single 10, p + 2) else if signs.contains c then .ok (single c, p + 2) else .bad 10 p

/-- what a reading function's caller owes for what it tells -/
def Owes (S : Glb) (n : Nat) (h : Heap) (r : Nat) (bv : Value) (l : List UInt8) (ext : Bool) (op : Nat) (m : Res (T × Nat × Nat)) (R : Value → Heap → Prop) (E : List PanicEntry → Heap → Prop) : Prop :=
  match m with
  | .out => False
  | .bad code pos => ∀ c h', Fails S h' h.size ext code pos c → Fm h.size r h h' → E c h'
  | .ok (t, p', gr') => ∀ h' vs, Fm h.size r h h' → Cx S n h' r bv l p' ext op gr' → IsRe h' (fun b => h.size ≤ b) t vs → R (.agg vs.toArray) h'
def Res.with (gr : Nat) : Res (T × Nat) → Res (T × Nat × Nat)
  | .out => .out
  | .bad a b => .bad a b
  | .ok (t, p) => .ok (t, p, gr)
theorem Fails.more {m k code pos : Nat} {c : List PanicEntry} (f : Fails S h m ext code pos c) (hk : k ≤ m) : Fails S h k ext code pos c := by
  obtain ⟨v, ⟨a, b, h1, h2, h3⟩, h4⟩ := f
  exact ⟨v, ⟨a, b, by omega, by omega, h3⟩, h4⟩

theorem ret_re {b : Nat} {cs : Array Value} {t : T} {vs : List Value} (hb : h[b]? = some (.cells cs 36 (0, 0))) (hs : cs.size = 9) {Q : Nat → Prop} (hq : ∀ x, Q x → x ≠ b) (ht : IsRe h Q t vs)
    (hK : ∀ h', Upd h h' b (.cells vs.toArray 36 (0, 0)) → IsRe h' Q t vs → R (.agg vs.toArray) h') :
    pStore Tryz.prog 36 (.pointer (some ⟨b, 0, none⟩)) (.agg vs.toArray) h fun h' => pLoad Tryz.prog 36 (.pointer (some ⟨b, 0, none⟩)) h' fun r => R r h' :=
  ret_full hb (by rw [Tryz.size36]; simp [ht.len]) (by rw [Tryz.agg36]; simp [ht.len]) (by simp [ht.len, hs]) (by simpa using ht.flat) fun h' hu =>
    hK h' hu (ht.frame fun x hx _ => ⟨hx, hu.other x (hq x hx)⟩)

theorem esc_spec {signs : List UInt8} (c : Cx S n h r bv l p ext op gr) (hp : p < l.length) (hk : Owes S n h r bv l ext op ((escM l signs p).with gr) R E) :
    CallsH Tryz.prog 106 #[ptr r, str signs] h R E := by
  refine C106 ?_
  unfold S106
  refine alloc_rule Tryz.zero36 fun h1 a1 => ?_
  have c1 := c.al a1
  have s1 := a1.size
  have hl := c.len
  have hr := c.rlt
  have f1 : Fm h.size r h h1 := Fm.al a1 (Nat.le_refl _)
  unfold escM at hk
  have fl : l[p + 1]? = none ∨ (∃ x, l[p + 1]? = some x ∧ x ≠ 110 ∧ signs.contains x = false) → ∀ {K : Value → Heap → Prop}, CallsH Tryz.prog 58 #[ptr r, .int .i64 10, .int .i64 p] h1 K E := by
    intro hh K
    refine fail_spec (code := 10) c1 (by omega) (by omega) fun e h' hf f => ?_
    rcases hh with hh | ⟨x, hh, hx, hx2⟩
    · rw [hh] at hk
      exact hk e h' (hf.more (by omega)) (f1.trans (f.less (by omega)))
    · rw [hh] at hk
      simp only [hx, if_false, hx2, Bool.false_eq_true] at hk
      exact hk e h' (hf.more (by omega)) (f1.trans (f.less (by omega)))
  refine Join0.intro (fun h' => h' = h1 ∧ p + 1 < l.length) ?_ ?_
  · simp only [boolV_bool, bcase_true, bcase_false, need, Tryz.zero36, reads_nil, Tryz.fa57_1, addr_add, Tryz.agg3, reads_add, Tryz.fa57_0, Tryz.agg29, reads_ge, Tryz.agg5, reads_eq, Tryz.size3, Tryz.size36, Tryz.bd36, Tryz.agg36, c1.ld0, c1.ld1, reads_blen c1.by_ Tryz.underlying29, Nat.zero_add, wrap_n1 p (by omega), dec_nn_le]
    refine bcase_of (fun hc => ?_) (fun hc => ⟨trivial, by have := of_decide_eq_false hc; omega⟩)
    have := of_decide_eq_true hc
    exact fl (.inl (List.getElem?_eq_none (by omega)))
  · rintro h2 ⟨rfl, hlt⟩
    simp only [boolV_bool, bcase_true, bcase_false, need, Tryz.zero36, reads_nil, Tryz.fa57_1, addr_add, Tryz.agg3, reads_add, Tryz.fa57_0, Tryz.agg29, reads_ge, Tryz.agg5, reads_eq, Tryz.size3, Tryz.size36, Tryz.bd36, Tryz.agg36, c1.ld0, c1.ld1, Nat.zero_add, wrap_n1 p (by omega), wrap_n2 p (by omega)]
    refine idx_load c1.by_ Tryz.underlying29 Tryz.size5 Tryz.agg5 hlt ?_
    rw [List.getElem?_eq_getElem hlt] at hk fl
    refine Join0.intro (fun h' => h' = h2 ∧ l[p + 1] ≠ 110 ∧ signs.contains l[p + 1] = false) ?_ ?_
    · refine Join1.intro (fun v h' => h' = h2 ∧ ∃ x : UInt8, v = .int .u8 x.toNat ∧ (if l[p + 1] = 110 then .ok (single 10, p + 2) else if signs.contains l[p + 1] then .ok (single l[p + 1], p + 2) else .bad 10 p : Res (T × Nat)) = .ok (single x, p + 2)) ?_ ?_
      · simp only [boolV_bool, bcase_true, bcase_false, need, Tryz.zero36, reads_nil, Tryz.fa57_1, addr_add, Tryz.agg3, reads_add, Tryz.fa57_0, Tryz.agg29, reads_ge, Tryz.agg5, reads_eq, Tryz.size3, Tryz.size36, Tryz.bd36, Tryz.agg36]
        refine bcase_of (fun hc => ?_) (fun hc => ?_)
        · have : l[p + 1] = 110 := by have := of_decide_eq_true hc; exact UInt8.toNat_inj.1 (by show l[p + 1].toNat = 110; omega)
          exact ⟨trivial, 10, rfl, by simp [this]⟩
        · have hne : l[p + 1] ≠ 110 := by intro e; rw [e] at hc; simp at hc
          refine sindex_spec ?_
          rw [reads_ge, index_ge, boolV_bool]
          refine bcase_of (fun hc2 => ⟨rfl, _, rfl, by simp only [hne, if_false, hc2, if_true]⟩) (fun hc2 => ⟨rfl, hne, hc2⟩)
      · rintro v h3 ⟨rfl, x, rfl, hx⟩
        simp only at hk
        rw [hx] at hk
        simp only [boolV_bool, bcase_true, bcase_false, need, Tryz.zero36, reads_nil, Tryz.fa57_1, addr_add, Tryz.agg3, reads_add, Tryz.fa57_0, Tryz.agg29, reads_ge, Tryz.agg5, reads_eq, Tryz.size3, Tryz.size36, Tryz.bd36, Tryz.agg36, c1.ld1, Nat.zero_add, wrap_n2 p (by omega)]
        refine store1 c1.rd Tryz.size3 rfl (by simp) fun h4 hu => ?_
        obtain ⟨f4, c4⟩ := c1.at_ (p' := p + 2) hu (by omega)
        refine single_spec fun h5 f5 => ?_
        have hb := (f5.same h.size (by rw [hu.size]; omega) (by rw [hu.size]; omega)).trans ((hu.other h.size (by omega)).trans a1.at_)
        refine ret_re (t := single x) (Q := fun _ => False) hb rfl (fun _ h => h.elim) IsRe.leaf fun h6 hu6 ht => ?_
        have f6 : Fm h.size r h h6 := ((f1.trans (f4.less (by omega))).trans ⟨f5.size, fun k hk hr => f5.same k (by rw [hu.size]; omega) (by rw [hu.size]; omega)⟩).trans (Fm.upd hu6 (.inl (Nat.le_refl _)))
        refine hk h6 _ f6 (c.on (f6.less c.nle) ?_ (by omega) c.opg c.g9) (ht.frame fun b hb _ => hb.elim)
        have e1 := (hu6.other r (by omega)).trans (f5.same r (by rw [hu.size]; omega) (by rw [hu.size]; omega))
        exact e1.trans c4.rd
    · rintro h3 ⟨rfl, hx, hx2⟩
      simp only [boolV_bool, bcase_true, bcase_false, need, Tryz.zero36, reads_nil, Tryz.fa57_1, addr_add, Tryz.agg3, reads_add, Tryz.fa57_0, Tryz.agg29, reads_ge, Tryz.agg5, reads_eq, Tryz.size3, Tryz.size36, Tryz.bd36, Tryz.agg36, c1.ld1, Nat.zero_add]
      exact fl (.inr ⟨_, rfl, hx, hx2⟩)
end Rt
end Go.Proofs
