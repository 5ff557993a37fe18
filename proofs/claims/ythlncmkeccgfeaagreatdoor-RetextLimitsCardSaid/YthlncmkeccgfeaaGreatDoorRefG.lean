/- A part of the proofs over this seat: RefG. -/
import Derived.Test.YthlncmkeccgfeaaGreatDoorRefA
set_option linter.unusedVariables false
set_option linter.unusedSimpArgs false
set_option maxRecDepth 100000
namespace Go.Proofs
open Go.Vcg
namespace Rt
attribute [local congr] Reads.congr ReadsS.congr pLoad.congr pLoadS.congr pStore.congr Runs.congr CallsH.congr bcase.congr boolV.congr Stable.congr pAlloc.congr
variable {n : Nat} {h : Heap} {r : Nat} {bv : Value} {l : List UInt8} {p : Nat} {ext : Bool} {gr code pos lang : Nat} {R : Value → Heap → Prop} {E : List PanicEntry → Heap → Prop}

/-- one to three digits, 255 at most -/
def cntR (l : List UInt8) (p : Nat) : Bool := decide (0 ≤ (numR l p).1) && decide ((numR l p).1 ≤ 255)
theorem rcount_spec (c : Kx n h r bv l p ext gr code pos lang) (hk : ∀ h' (v : Int), Fm h.size r h h' → h'.size = h.size → (∀ k, k ≠ r → h'[k]? = h[k]?) → Kx n h' r bv l (numR l p).2 ext gr code pos lang → (cntR l p = true → v = (numR l p).1) → R (.tuple #[.int .i64 v, .bool (cntR l p)]) h') :
    CallsH Tryz.prog 110 #[ptr r] h R E := by
  have hl := c.len
  have hp := c.le
  have hle := numR_le hp
  refine C110 ?_
  unfold S110
  rw [reads_nil, Tryz.fa71_0, addr_add, c.ld0, reads_nil, Tryz.fa71_1, addr_add, Nat.zero_add, c.ld1]
  refine reads_bfrom c.by_ Tryz.underlying29 Tryz.size5 hp fun u hu => ?_
  have hdl := dlen_le (l.drop p)
  rw [List.length_drop] at hdl
  refine ⟨rdigits_spec hu (by simp; omega) fun v ov hv => ⟨trivial, ?_⟩, trivial⟩
  rw [reads_ext0, reads_ext1, reads_ext2, reads_nil, Tryz.fa71_1, addr_add, Nat.zero_add, c.ld1, reads_add, wrap_nn _ _ (by omega), reads_nil, Tryz.fa71_1, addr_add, Nat.zero_add]
  have ep : p + dlen (l.drop p) = (numR l p).2 := rfl
  rw [ep]
  refine c.goto hle.2 fun h2 f2 s2 o2 c2 => ?_
  have key := fun w hw => hk h2 w f2 s2 o2 c2 hw
  unfold cntR numR at key
  simp only at key
  have e2 := dval_lt (l := l.drop p) (i := dlen (l.drop p)) (Nat.le_refl _)
  rw [reads_ge, boolV_bool]
  refine bcase_of (fun h1 => ?_) (fun h1 => ?_)
  · have h1 := of_decide_eq_true h1
    rw [reads_le, boolV_bool]
    refine bcase_of (fun h3 => ?_) (fun h3 => ?_)
    · have h3 := of_decide_eq_true h3
      have hv := hv (by omega)
      rw [reads_le]
      have := key v
      rw [if_neg (by omega)] at this
      have e : (decide ((0 : Int) ≤ (dval (l.drop p) (dlen (l.drop p)) : Nat)) && decide (((dval (l.drop p) (dlen (l.drop p)) : Nat) : Int) ≤ 255)) = decide (v ≤ 255) := by
        rw [hv, decide_eq_true (by omega), Bool.true_and]
      rw [e] at this
      exact this fun _ => hv
    · have h3 := of_decide_eq_false h3
      have := key v
      rw [if_pos (by omega)] at this
      exact this fun h => by simp at h
  · have h1 := of_decide_eq_false h1
    have := key v
    rw [if_pos (by omega)] at this
    exact this fun h => by simp at h
theorem rrep_spec {t : T} {vs : List Value} {mn mx : Int} {Q : Nat → Prop} (ht : IsRe h Q t vs)
    (hK : ∀ h' vs', Fm h.size h.size h h' → IsRe h' (fun b => Q b ∨ h.size ≤ b) (.node 6 .zero mn mx 0 [t]) vs' → R (.agg vs'.toArray) h') : CallsH Tryz.prog 86 #[.int .i64 mn, .int .i64 mx, .agg vs.toArray] h R E := by
  refine C86 ?_
  unfold S86
  refine new_rule fun h1 a1 => alloc_rule Tryz.zero36 fun h2 a2 => ?_
  have s1 := a1.size
  have s2 := a2.size
  have b1 := (a2.old h.size (by omega)).trans a1.at_
  refine load_all b1 (by rw [Tryz.agg36]; simp [Value.cells, ht.len]) ?_
  refine slice1_rule Tryz.info36 Tryz.underlying34 (by simp [Value.cells, ht.len]) (by omega) (by omega) fun h3 a3 => ?_
  have s3 := a3.size
  rw [Tryz.bd36_0_2_3_5]
  refine ret_full ((a3.old h1.size (by omega)).trans a2.at_) (xs := (reL 6 .zero mn mx 0 (.slice (some ⟨h2.size, 0, none⟩) 1 1)).toArray) Tryz.size36 Tryz.agg36 rfl (flat_reL rfl) fun h4 hu => ?_
  have hold : ∀ b, b < h.size → h4[b]? = h[b]? := fun b hb => by rw [hu.other b (by omega), a3.old b (by omega), a2.old b (by omega), a1.old b hb]
  refine hK h4 _ ⟨by rw [hu.size]; omega, fun b hb _ => hold b hb⟩ ?_
  refine IsRe.kid (vs := vs) ((hu.other h2.size (by omega)).trans a3.at_) (.inr (by omega)) (ht.frame fun b hb hlt => ⟨.inl hb, hold b hlt⟩)
theorem rany_spec (hk : ∀ h', Fm h.size h.size h h' → R (.agg (reL 1 anyW 0 0 0 (.slice none 0 0)).toArray) h') : CallsH Tryz.prog 88 #[] h R E := by
  refine C88 ?_
  unfold S88
  refine alloc_rule Tryz.zero36 fun h1 a1 => ?_
  have s1 := a1.size
  rw [Tryz.bd33]
  refine rnot_spec (s := W4.zero) W4.zero_ok fun h2 f2 => ?_
  have s2 := f2.size
  rw [show Value.agg W4.zero.not.vals.toArray = .agg #[.int .u64 anyW.a, .int .u64 anyW.b, .int .u64 anyW.c, .int .u64 anyW.d] from rfl, Tryz.bd36_0_1]
  refine ret_full ((f2.same h.size (by omega) (by omega)).trans a1.at_) (xs := (reL 1 anyW 0 0 0 (.slice none 0 0)).toArray) Tryz.size36 Tryz.agg36 rfl (flat_reL rfl) fun h3 u3 => ?_
  exact hk h3 ((Fm.al a1 (Nat.le_refl _)).trans ((Fm.lift f2 (by omega) (by omega)).trans (Fm.upd u3 (.inl (Nat.le_refl _)))))
theorem rseveral_spec {v : Value} {ts : List T} {kind : Nat} (k : Kids h n v ts) (hn : n ≤ h.size) (hne : ts ≠ [])
    (hK : ∀ h' vs, Fm h.size h.size h h' → IsRe h' (fun b => n ≤ b) (joinM kind ts) vs → R (.agg vs.toArray) h') : CallsH Tryz.prog 60 #[.int .i64 kind, v] h R E := by
  refine C60 ?_
  unfold S60
  obtain ⟨xs, ⟨hl, ho⟩, hrow⟩ := k
  rcases ho with ⟨_, hz⟩ | ⟨g, cap, cur, rfl, e2, e3, e4, e5, e6, e7⟩
  · exact absurd (List.length_eq_zero_iff.1 hz) hne
  refine alloc_rule Tryz.zero36 fun h1 a1 => ?_
  have g1 := (a1.old g (at_lt e3)).trans e3
  have f1 : Fm h.size h.size h h1 := Fm.al a1 (Nat.le_refl _)
  rw [reads_rlen Tryz.underlying34, reads_eq, boolV_bool]
  refine bcase_of (fun hc => ?_) (fun hc => ?_)
  · have h1' : ts.length = 1 := by have := of_decide_eq_true hc; omega
    obtain ⟨t, rfl⟩ := List.length_eq_one_iff.1 h1'
    rw [show Value.int IntKind.i64 0 = .int .i64 ((0 : Nat) : Int) from rfl, reads_idxRow Tryz.underlying34 Tryz.size36 (by simp)]
    rw [addr_add]
    simp only [List.length_cons, List.length_nil, Nat.zero_add, Nat.one_mul] at *
    refine load_row g1 Tryz.agg36 (by omega) ?_
    have hx : (cur.toList.drop (0 * 9)).take 9 = xs := by simpa using e7
    rw [Nat.zero_mul] at hx ⊢
    rw [hx]
    rw [IsRow.one] at hrow
    have ht := hrow
    refine ret_full a1.at_ (xs := xs.toArray) (by rw [Tryz.size36]; simp [ht.len]) (by rw [Tryz.agg36]; simp [ht.len]) (by simp [ht.len, Value.cells]) (by simpa using ht.flat) fun h2 hu => ?_
    refine hK h2 xs (f1.trans (Fm.upd hu (.inl (Nat.le_refl _)))) (ht.frame fun b hb hlt => ⟨hb.1, ?_⟩)
    rw [hu.other b (by omega), a1.old b hlt]
  · have h2' : ts.length ≠ 1 := by have := of_decide_eq_false hc; omega
    have hj : joinM kind ts = .node kind .zero 0 0 0 ts := by
      unfold joinM
      split
      · rename_i t; exact absurd rfl h2'
      · rfl
    rw [hj] at hK
    rw [Tryz.bd36_0_5]
    refine ret_full a1.at_ (xs := (reL kind .zero 0 0 0 (.slice (some ⟨g, 0, none⟩) ts.length cap)).toArray) Tryz.size36 Tryz.agg36 rfl (flat_reL rfl) fun h2 hu => ?_
    refine hK h2 _ (f1.trans (Fm.upd hu (.inl (Nat.le_refl _)))) ?_
    simp only [IsRe]
    have hgs := at_lt e3
    refine ⟨_, rfl, .inr ⟨g, cap, cur, e2, rfl, e4, by rw [e6]; omega, ?_, ?_⟩⟩
    · rw [hu.other g (by omega)]; exact g1
    · rw [e7]
      exact hrow.frame fun b hb hlt => ⟨hb.1, by rw [hu.other b (by omega), a1.old b hlt]⟩
end Rt
end Go.Proofs

set_option maxRecDepth 100000
namespace Go.Proofs
open Go.Vcg
namespace Rt
attribute [local congr] Reads.congr ReadsS.congr pLoad.congr pLoadS.congr pStore.congr Runs.congr CallsH.congr bcase.congr boolV.congr Stable.congr pAlloc.congr
variable {n : Nat} {h : Heap} {r : Nat} {bv : Value} {l : List UInt8} {p : Nat} {ext : Bool} {gr code pos lang : Nat} {R : Value → Heap → Prop} {E : List PanicEntry → Heap → Prop}

theorem intM_cnt {t : T} {frm : Nat} {shut : List UInt8} (h : cntR l p = false) : intM l t frm shut p = .bad 7 frm := by
  unfold cntR at h
  unfold intM
  split
  · rfl
  · refine if_pos ?_
    by_cases h0 : 0 ≤ (numR l p).1
    · rw [decide_eq_true h0, Bool.true_and] at h
      have := of_decide_eq_false h
      exact .inr (.inr (.inl (by omega)))
    · exact .inl (by omega)
theorem signM_ne (x : UInt8) : signM ext x ≠ [] := by unfold signM; split <;> simp
theorem signM_len (x : UInt8) : (signM ext x).length ≤ 2 := by unfold signM; split <;> simp
theorem rinterval_spec {t : T} {frm : Nat} (c : Kx n h r bv l p ext gr 0 0 0)
    (hok : ∀ (mn mx : Int) (q : Nat), intM l t frm (signM ext 125) p = .ok (repM t mn mx, q) → ∀ h', Fm h.size r h h' → Kx n h' r bv l q ext gr 0 0 0 → R (.tuple #[.int .i64 mn, .int .i64 mx, .bool true]) h')
    (hbad : intM l t frm (signM ext 125) p = .bad 7 frm → ∀ h' q, Fm h.size r h h' → Kx n h' r bv l q ext gr 0 0 0 → R (.tuple #[.int .i64 0, .int .i64 0, .bool false]) h') : CallsH Tryz.prog 87 #[ptr r] h R E := by
  have hl := c.len
  have hp := c.le
  have hle := numR_le hp
  have hsl := signM_len (ext := ext) 125
  refine C87 ?_
  unfold S87
  refine rcount_spec c fun h1 v f1 s1 o1 c1 hv => ?_
  rw [reads_ext0, reads_ext1]
  refine Join2.intro (fun x y h' => ∃ (ok : Bool) (mx : Int) (q : Nat), x = .bool ok ∧ y = .int .i64 mx ∧ Fm h.size r h h' ∧ Kx n h' r bv l q ext gr 0 0 0 ∧ (ok = false → intM l t frm (signM ext 125) p = .bad 7 frm) ∧ (ok = true → cntR l p = true ∧ mx ≤ 255 ∧ secondR l (signM ext 125) (numR l p).1 (numR l p).2 = some (mx, q))) ?_ ?_
  · refine Join1.intro (fun w h' => h' = h1 ∧ w = .bool (cntR l p && isM l [44] (numR l p).2)) ?_ ?_
    · rw [boolV_bool]
      refine bcase_of (fun h2 => ?_) (fun h2 => ⟨rfl, by rw [h2]; rfl⟩)
      refine ris_spec c1 (by simp) ⟨rfl, by rw [h2]; rfl⟩
    rintro w h2 ⟨rfl, rfl⟩
    rw [boolV_bool]
    refine bcase_of (fun hc => ?_) (fun hc => ?_)
    · simp only [Bool.and_eq_true] at hc
      have hlt := isM_lt hc.2
      have hcn := hc.1
      unfold cntR at hcn
      simp only [Bool.and_eq_true, decide_eq_true_eq] at hcn
      have hsec : secondR l (signM ext 125) (numR l p).1 (numR l p).2 = if isM l (signM ext 125) ((numR l p).2 + 1) = true then some (-1, (numR l p).2 + 1) else if (numR l ((numR l p).2 + 1)).1 < 0 then none else some (numR l ((numR l p).2 + 1)) := by
        unfold secondR
        exact if_pos ⟨hcn.1, hc.2⟩
      rw [reads_nil, Tryz.fa71_1, addr_add, Nat.zero_add, c1.ld1, reads_add, wrap_n1 _ (by omega), reads_nil, Tryz.fa71_1, addr_add, Nat.zero_add]
      refine c1.goto (by omega) fun h4 f4 s4 o4 c4 => ?_
      have f04 : Fm h.size r h h4 := f1.trans (f4.less (by omega))
      refine rsign_spec c4 (ris_spec c4 (by omega) ?_)
      rw [reads_not, boolV_bool]
      refine bcase_of (fun hs => ?_) (fun hs => ?_)
      · have hs : isM l (signM ext 125) ((numR l p).2 + 1) = false := by simpa using hs
        refine rcount_spec c4 fun h7 v2 f7 s7 o7 c7 hv2 => ?_
        rw [reads_ext0, reads_ext1]
        refine ⟨_, _, _, rfl, rfl, f04.trans (f7.less (by omega)), c7, fun h0 => ?_, fun h1 => ?_⟩
        · unfold intM
          rw [hsec, if_neg (by rw [hs]; simp)]
          by_cases hz : (numR l ((numR l p).2 + 1)).1 < 0
          · rw [if_pos hz]
          · rw [if_neg hz]
            refine if_pos ?_
            unfold cntR at h0
            rw [decide_eq_true (by omega), Bool.true_and] at h0
            have := of_decide_eq_false h0
            exact .inr (.inr (.inr (.inl (by omega))))
        · have hv2 := hv2 h1
          unfold cntR at h1
          simp only [Bool.and_eq_true, decide_eq_true_eq] at h1
          refine ⟨hc.1, by rw [hv2]; exact h1.2, ?_⟩
          rw [hsec, if_neg (by rw [hs]; simp), if_neg (by omega), hv2]
      · have hs : isM l (signM ext 125) ((numR l p).2 + 1) = true := by simpa using hs
        refine ⟨_, -1, _, rfl, rfl, f04, c4, fun h0 => ?_, fun h1 => ⟨hc.1, by omega, by rw [hsec, if_pos hs]⟩⟩
        rw [hc.1] at h0
        cases h0
    · refine ⟨_, v, _, rfl, rfl, f1, c1, fun h0 => intM_cnt h0, fun h1 => ?_⟩
      have hv := hv h1
      have hcn := h1
      unfold cntR at hcn
      simp only [Bool.and_eq_true, decide_eq_true_eq] at hcn
      refine ⟨h1, by rw [hv]; exact hcn.2, ?_⟩
      rw [h1, Bool.true_and] at hc
      unfold secondR
      rw [if_neg (fun e => by rw [hc] at e; cases e.2), hv]
  rintro x y h8 ⟨ok, mx, q, rfl, rfl, f8, c8, hno, hyes⟩
  have s8 := f8.size
  refine Join0.intro (fun h' => h' = h8 ∧ ok = true ∧ intM l t frm (signM ext 125) p = .ok (repM t (numR l p).1 mx, q + (signM ext 125).length) ∧ v = (numR l p).1 ∧ isM l (signM ext 125) q = true) ?_ ?_
  · rw [reads_not, boolV_bool]
    refine bcase_of (fun h0 => ?_) (fun h0 => ?_)
    · have h0 : ok = false := by simpa using h0
      exact ⟨rfl, rfl, rfl, hbad (hno h0) h8 q f8 c8⟩
    have h0 : ok = true := by simpa using h0
    obtain ⟨hcn, hmx, hsec⟩ := hyes h0
    have hv := hv hcn
    have hcn' := hcn
    unfold cntR at hcn'
    simp only [Bool.and_eq_true, decide_eq_true_eq] at hcn'
    refine rsign_spec c8 (ris_spec c8 (by omega) ?_)
    rw [reads_not, boolV_bool]
    refine bcase_of (fun hs => ?_) (fun hs => ?_)
    · have hs : isM l (signM ext 125) q = false := by simpa using hs
      refine ⟨rfl, rfl, rfl, hbad ?_ h8 q f8 c8⟩
      unfold intM
      rw [hsec]
      exact if_pos (.inr (.inl hs))
    have hs : isM l (signM ext 125) q = true := by simpa using hs
    have good : ¬ (0 ≤ mx ∧ mx < (numR l p).1) → intM l t frm (signM ext 125) p = .ok (repM t (numR l p).1 mx, q + (signM ext 125).length) := by
      intro hn
      unfold intM
      rw [hsec]
      refine if_neg ?_
      rintro (e | e | e | e | e)
      · omega
      · simp only at e; rw [hs] at e; cases e
      · omega
      · simp only at e; omega
      · exact hn e
    rw [reads_ge, boolV_bool]
    refine bcase_of (fun h1 => ?_) (fun h1 => ?_)
    · have h1 := of_decide_eq_true h1
      rw [reads_lt, boolV_bool]
      refine bcase_of (fun h2 => ?_) (fun h2 => ?_)
      · have h2 := of_decide_eq_true h2
        refine hbad ?_ h8 q f8 c8
        unfold intM
        rw [hsec]
        exact if_pos (.inr (.inr (.inr (.inr ⟨h1, by rw [← hv]; exact h2⟩))))
      · have h2 := of_decide_eq_false h2
        exact ⟨rfl, h0, good fun e => h2 (by rw [hv]; exact e.2), hv, hs⟩
    · have h1 := of_decide_eq_false h1
      exact ⟨rfl, h0, good fun e => h1 e.1, hv, hs⟩
  rintro h11 ⟨rfl, _, hint, hv, hs⟩
  have hq := isM_le c8.le hs
  refine ⟨fun h' => RdrR h' r bv q ext gr 0 0 0, c8.rd, ?_⟩
  refine readsS_lift (fun h k => reads_nil) ?_
  refine readsS_lift (fun h k => Tryz.fa71_1) ?_
  rw [addr_add, Nat.zero_add]
  refine pLoadS_one Tryz.agg3 (v := .int .i64 q) (fun h' hh => by rw [hcell_of hh]; rfl) ?_
  refine ⟨rsign_spec c8 ⟨c8.rd, ?_⟩, trivial⟩
  refine readsS_lift (fun h k => reads_slen Tryz.underlying9) ?_
  rw [reads_add, wrap_nn _ _ (by omega), reads_nil, Tryz.fa71_1, addr_add, Nat.zero_add]
  refine ⟨?_, trivial⟩
  refine c8.goto hq fun h13 f13 s13 o13 c13 => ⟨trivial, ?_⟩
  rw [hv]
  exact hok _ _ _ hint h13 (f8.trans (f13.less (by omega))) c13
end Rt
end Go.Proofs

set_option maxRecDepth 100000
namespace Go.Proofs
open Go.Vcg
namespace Rt
attribute [local congr] Reads.congr ReadsS.congr pLoad.congr pLoadS.congr pStore.congr Runs.congr CallsH.congr bcase.congr boolV.congr Stable.congr pAlloc.congr
variable {n : Nat} {h : Heap} {r : Nat} {bv : Value} {l : List UInt8} {p : Nat} {ext : Bool} {gr code pos lang : Nat} {R : Value → Heap → Prop} {E : List PanicEntry → Heap → Prop}

/-- what a reading function of the reference owes: its errors stick -/
def OwesK (n : Nat) (h : Heap) (r : Nat) (bv : Value) (l : List UInt8) (ext : Bool) (m : Res (T × Nat × Nat)) (R : Value → Heap → Prop) : Prop :=
  match m with
  | .out => False
  | .bad code pos => ∀ h' vs t p' gr', Fm h.size r h h' → Kx n h' r bv l p' ext gr' code pos (langN ext) → IsRe h' (fun b => h.size ≤ b) t vs → R (.agg vs.toArray) h'
  | .ok x => ∀ h' vs, Fm h.size r h h' → Kx n h' r bv l x.2.1 ext x.2.2 0 0 0 → IsRe h' (fun b => h.size ≤ b) x.1 vs → R (.agg vs.toArray) h'
def signsOf (ext : Bool) : List UInt8 := if ext then extSigns else basSigns
theorem signs_ext (c : UInt8) : (signsOf ext).contains c = (basSigns.contains c || (ext && moreSigns.contains c)) := by
  cases ext
  · simp [signsOf]
  · simp only [signsOf, if_true, Bool.true_and]
    rw [Bool.eq_iff_iff]
    simp only [extSigns, basSigns, moreSigns, List.contains_cons, List.contains_nil, Bool.or_eq_true, beq_iff_eq, Bool.or_false]
    constructor
    · rintro (e | e | e | e | e | e | e | e | e | e | e | e | e | e | e) <;> simp [e]
    · rintro ((e | e | e | e | e | e | e | e) | (e | e | e | e | e | e | e)) <;> simp [e]
theorem rescape_spec (c : Kx n h r bv l p ext gr 0 0 0) (hp : p < l.length) (hk : OwesK n h r bv l ext ((escM l (signsOf ext) p).with gr) R) : CallsH Tryz.prog 91 #[ptr r] h R E := by
  have hr := c.rlt
  have hl := c.len
  have hn := c.nle
  refine C91 ?_
  unfold S91
  refine alloc_rule Tryz.zero36 fun h1 a1 => ?_
  have s1 := a1.size
  have c1 := c.al a1
  have f1 : Fm h.size r h h1 := Fm.al a1 (Nat.le_refl _)
  -- a byte, given back
  have give : ∀ {x : UInt8}, p + 2 ≤ l.length → escM l (signsOf ext) p = .ok (single x, p + 2) → pStore Tryz.prog 3 (.pointer (some ⟨r, 1, none⟩)) (.int .i64 (p + 2 : Nat)) h1 fun h2 => CallsH Tryz.prog 15 #[.int .u8 x.toNat] h2 (fun t35 h3 => pStore Tryz.prog 36 (.pointer (some ⟨h.size, 0, none⟩)) t35 h3 fun h4 => pLoad Tryz.prog 36 (.pointer (some ⟨h.size, 0, none⟩)) h4 fun r4 => R r4 h4) E := by
    intro x hp2 e
    rw [e] at hk
    refine c1.goto hp2 fun h2 f2 s2 o2 c2 => ?_
    refine one_spec fun h3 f3 => ?_
    have s3 := f3.size
    have f3' : Fm h2.size r h2 h3 := ⟨s3, fun k k1 _ => f3.same k k1 (by omega)⟩
    have c3 := c2.still (f3'.less c2.nle) (f3.same r (by omega) (by omega))
    have hb := (f3.same h.size (by omega) (by omega)).trans ((o2 h.size (by omega)).trans a1.at_)
    refine ret_re (t := single x) (Q := fun _ => False) hb rfl (fun _ h => h.elim) IsRe.leaf fun h4 u4 ht => ?_
    refine hk h4 _ (f1.trans ((f2.less (by omega)).trans ((f3'.less (by omega)).trans (Fm.upd u4 (.inl (Nat.le_refl _)))))) (c3.upd u4 (by omega) (by omega)) (ht.frame fun b hb _ => hb.elim)
  refine Join0.intro (fun h' => h' = h1 ∧ escM l (signsOf ext) p = .bad 10 p) ?_ ?_
  · rw [reads_nil, Tryz.fa71_1, addr_add, Nat.zero_add, c1.ld1, reads_add, wrap_n1 _ (by omega), reads_nil, Tryz.fa71_0, addr_add, c1.ld0, reads_blen c1.by_ Tryz.underlying29, reads_lt, dec_nn_lt, boolV_bool]
    refine bcase_of (fun hc => ?_) (fun hc => ?_)
    · have hlt : p + 1 < l.length := of_decide_eq_true hc
      have hesc : escM l (signsOf ext) p = if l[p + 1] = 110 then .ok (single 10, p + 2) else if (signsOf ext).contains l[p + 1] then .ok (single l[p + 1], p + 2) else .bad 10 p := by
        unfold escM
        rw [List.getElem?_eq_getElem hlt]
      rw [reads_nil, Tryz.fa71_0, addr_add, c1.ld0, reads_nil, Tryz.fa71_1, addr_add, Nat.zero_add, c1.ld1, reads_add, wrap_n1 _ (by omega)]
      refine idx_load c1.by_ Tryz.underlying29 Tryz.size5 Tryz.agg5 hlt ?_
      have e110 : decide ((l[p + 1].toNat : Int) = 110) = decide (l[p + 1] = 110) := dec_u8_eq _ 110
      rw [reads_eq, e110, boolV_bool]
      refine bcase_of (fun h2 => ?_) (fun h2 => ?_)
      · have h2 := of_decide_eq_true h2
        rw [reads_nil, Tryz.fa71_1, addr_add, Nat.zero_add, c1.ld1, reads_add, wrap_n2 _ (by omega), reads_nil, Tryz.fa71_1, addr_add, Nat.zero_add]
        exact give (x := 10) (by omega) (by rw [hesc, if_pos h2])
      have h2 := of_decide_eq_false h2
      rw [if_neg h2] at hesc
      refine Join1.intro (fun v h' => h' = h1 ∧ v = .bool ((signsOf ext).contains l[p + 1])) ?_ ?_
      · refine rin_spec (s := basSigns) (by decide) ?_
        rw [boolV_bool, signs_ext]
        refine bcase_of (fun h3 => ⟨rfl, rfl, rfl, by rw [h3]; rfl⟩) (fun h3 => ?_)
        rw [reads_nil, Tryz.fa71_2, addr_add, Nat.zero_add, c1.ld2, boolV_bool]
        refine bcase_of (fun h4 => ?_) (fun h4 => ⟨rfl, by rw [h3, h4]; rfl⟩)
        refine rin_spec (s := moreSigns) (by decide) ⟨rfl, by rw [h3, h4]; rfl⟩
      rintro v h3 ⟨rfl, rfl⟩
      rw [boolV_bool]
      refine bcase_of (fun h3 => ?_) (fun h3 => ⟨rfl, by rw [hesc, if_neg (by rw [h3]; simp)]⟩)
      rw [reads_nil, Tryz.fa71_1, addr_add, Nat.zero_add, c1.ld1, reads_add, wrap_n2 _ (by omega), reads_nil, Tryz.fa71_1, addr_add, Nat.zero_add]
      exact give (by omega) (by rw [hesc, if_pos h3])
    · have hge := of_decide_eq_false hc
      refine ⟨rfl, ?_⟩
      unfold escM
      rw [List.getElem?_eq_none (by omega)]
  rintro h11 ⟨rfl, e⟩
  rw [e] at hk
  rw [reads_nil, Tryz.fa71_1, addr_add, Nat.zero_add, c1.ld1]
  refine rfail_spec (e := 10) c1 (by omega) fun h12 f12 c12 => ?_
  have s12 := f12.size
  refine ret_re (t := .node 0 .zero 0 0 0 []) (Q := fun _ => False) ((f12.same h.size (by omega) (by omega)).trans a1.at_) rfl (fun _ h => h.elim) IsRe.leaf fun h13 u13 ht => ?_
  exact hk h13 _ _ _ _ (f1.trans ((f12.less (by omega)).trans (Fm.upd u13 (.inl (Nat.le_refl _))))) (c12.upd u13 (by omega) (by omega)) (ht.frame fun b hb _ => hb.elim)
end Rt
end Go.Proofs

set_option maxRecDepth 100000
namespace Go.Proofs
open Go.Vcg
namespace Rt
attribute [local congr] Reads.congr ReadsS.congr pLoad.congr pLoadS.congr pStore.congr Runs.congr CallsH.congr bcase.congr boolV.congr Stable.congr pAlloc.congr
variable {n : Nat} {h : Heap} {r : Nat} {bv : Value} {l : List UInt8} {p : Nat} {ext : Bool} {gr code pos lang : Nat} {R : Value → Heap → Prop} {E : List PanicEntry → Heap → Prop}

def timesX (ext : Bool) : Nat → List UInt8 → T → Nat → Res (T × Nat)
  | 0, _, _, _ => .out
  | k + 1, l, e, p =>
    if isM l [42] p then timesX ext k l (repM e 0 (-1)) (p + 1)
    else if (ext && isM l [43] p) = true then timesX ext k l (repM e 1 (-1)) (p + 1)
    else if (ext && isM l [63] p) = true then timesX ext k l (repM e 0 1) (p + 1)
    else if isM l (signM ext 123) p then (match intM l e p (signM ext 125) (p + (signM ext 123).length) with | .ok x => timesX ext k l x.1 x.2 | .bad a b => .bad a b | .out => .out)
    else .ok (e, p)
theorem timesX_ext : ∀ (k : Nat) (e : T) (p : Nat), timesX true k l e p = timesLM k l e p
  | 0, e, p => rfl
  | k + 1, e, p => by
    unfold timesX timesLM
    simp only [timesX_ext k, Bool.true_and, signM, if_true, List.length_cons, List.length_nil, Nat.zero_add]
    cases intM l e p [125] (p + 1) <;> rfl
theorem timesX_bas : ∀ (k : Nat) (e : T) (p : Nat), timesX false k l e p = timesBM k l e p
  | 0, e, p => rfl
  | k + 1, e, p => by
    unfold timesX timesBM
    simp only [timesX_bas k, Bool.false_and, signM, Bool.false_eq_true, if_false, List.length_cons, List.length_nil, Nat.zero_add, Nat.reduceAdd]
    cases intM l e p [92, 125] (p + 2) <;> rfl
def OwesT (n : Nat) (h : Heap) (r : Nat) (bv : Value) (l : List UInt8) (ext : Bool) (gr : Nat) (Q : Nat → Prop) (m : Res (T × Nat)) (R : Value → Heap → Prop) : Prop :=
  match m with
  | .out => False
  | .bad code pos => ∀ h' vs t p', Fm h.size r h h' → Kx n h' r bv l p' ext gr code pos (langN ext) → IsRe h' (fun b => h.size ≤ b) t vs → R (.agg vs.toArray) h'
  | .ok x => ∀ h' vs, Fm h.size r h h' → Kx n h' r bv l x.2 ext gr 0 0 0 → IsRe h' (fun b => Q b ∨ h.size ≤ b) x.1 vs → R (.agg vs.toArray) h'
theorem rtimes_spec {k : Nat} {Q : Nat → Prop} {t : T} {vs : List Value} (c : Kx n h r bv l p ext gr 0 0 0) (ht : IsRe h Q t vs) (hQ : ∀ x, Q x → x ≠ r ∧ x < h.size) (hk : OwesT n h r bv l ext gr Q (timesX ext k l t p) R) : CallsH Tryz.prog 62 #[ptr r, .agg vs.toArray] h R E := by
  have hr := c.rlt
  have hl := c.len
  have hn := c.nle
  refine C62 ?_
  unfold S62
  refine new_rule fun h1 a1 => alloc_rule Tryz.zero36 fun h2 a2 => ?_
  have s1 := a1.size
  have s2 := a2.size
  have c2 := (c.al a1).al a2
  have f2 : Fm h.size r h h2 := (Fm.al a1 (Nat.le_refl _)).trans (Fm.al a2 (by omega))
  have b2 : h2[h.size]? = some (.cells vs.toArray 36 (0, 0)) := (a2.old _ (by omega)).trans a1.at_
  refine Loop0.fuel (fun j h' => ∃ (u : T) (ws : List Value) (q : Nat), Fm h.size r h h' ∧ h2.size ≤ h'.size ∧ Kx n h' r bv l q ext gr 0 0 0 ∧ h'[h.size]? = some (.cells ws.toArray 36 (0, 0)) ∧ (∃ cs, h'[h1.size]? = some (.cells cs 36 (0, 0)) ∧ cs.size = 9) ∧ IsRe h' (fun b => Q b ∨ h1.size < b) u ws ∧ OwesT n h r bv l ext gr Q (timesX ext j l u q) R)
    (n := k) ⟨t, vs, p, f2, Nat.le_refl _, c2, b2, ⟨_, a2.at_, rfl⟩, ht.frame fun b hb hlt => ⟨.inl hb, f2.same b hlt (hQ b hb).1⟩, hk⟩ fun j h3 hi => ?_
  obtain ⟨u, ws, q, f3, s3, c3, b3, ⟨cs, d3, z3⟩, hu, hk3⟩ := hi
  have hr3 := c3.rlt
  have hq3 := c3.le
  cases j with
  | zero => exact hk3.elim
  | succ j =>
  unfold timesX at hk3
  have hQ' : ∀ b, (Q b ∨ h1.size < b) → b ≠ h.size ∧ b ≠ h1.size := fun b hb => by rcases hb with hb | hb; have := (hQ b hb).2; omega; omega
  -- one sign more
  have again : ∀ {mn mx : Int} {K : Heap → Prop}, isM l [42] q = true ∨ q + 1 ≤ l.length → (∀ h' ws', Fm h.size r h h' → h2.size ≤ h'.size → Kx n h' r bv l (q + 1) ext gr 0 0 0 → h'[h.size]? = some (.cells ws'.toArray 36 (0, 0)) → (∃ cs, h'[h1.size]? = some (.cells cs 36 (0, 0)) ∧ cs.size = 9) → IsRe h' (fun b => Q b ∨ h1.size < b) (repM u mn mx) ws' → K h') →
      pLoad Tryz.prog 36 (.pointer (some ⟨h.size, 0, none⟩)) h3 fun x => CallsH Tryz.prog 86 #[.int .i64 mn, .int .i64 mx, x] h3 (fun y h6 => pStore Tryz.prog 36 (.pointer (some ⟨h.size, 0, none⟩)) y h6 fun h7 => Reads Tryz.prog (nilS (ptr r)) h7 fun t19 => Reads Tryz.prog (Instr.fieldAt 71 t19 1) h7 fun t20 => pLoad Tryz.prog 3 t20 h7 fun t21 =>
        Reads Tryz.prog (binS .add 3 true t21 (.int .i64 1)) h7 fun t22 => Reads Tryz.prog (nilS (ptr r)) h7 fun t23 => Reads Tryz.prog (Instr.fieldAt 71 t23 1) h7 fun t24 => pStore Tryz.prog 3 t24 t22 h7 K) E := by
    intro mn mx K hlt hK
    have hlt : q + 1 ≤ l.length := by
      rcases hlt with e | e
      · have := isM_lt e; omega
      · exact e
    refine load_all b3 (by rw [Tryz.agg36]; simp [hu.len]) ?_
    refine rrep_spec hu fun h6 xs f6 ht6 => ?_
    have s6 := f6.size
    refine storeFull ((f6.same h.size (by omega) (by omega)).trans b3) (xs := xs.toArray) (by rw [Tryz.size36]; simp [ht6.len]) (by simp [ht6.len, hu.len]) (by simpa using ht6.flat) fun h7 u7 => ?_
    have s7 := u7.size
    have f6' : Fm h3.size r h3 h6 := ⟨f6.size, fun k hk _ => f6.same k hk (by omega)⟩
    have c7 : Kx n h7 r bv l q ext gr 0 0 0 := (c3.still (f6'.less c3.nle) (f6.same r hr3 (by omega))).upd u7 (by omega) (by omega)
    rw [reads_nil, Tryz.fa71_1, addr_add, Nat.zero_add, c7.ld1, reads_add, wrap_n1 _ (by omega), reads_nil, Tryz.fa71_1, addr_add, Nat.zero_add]
    refine c7.goto hlt fun h8 f8 s8 o8 c8 => ?_
    refine hK h8 xs (f3.trans ((f6'.less (by omega)).trans ((Fm.upd u7 (.inl (Nat.le_refl _))).trans (f8.less (by omega))))) (by omega) c8 ((o8 _ (by omega)).trans u7.same) ⟨cs, (o8 _ (by omega)).trans ((u7.other _ (by omega)).trans ((f6.same _ (by omega) (by omega)).trans d3)), z3⟩ ?_
    refine ht6.frame fun b hb hlt => ?_
    have hb' : Q b ∨ h1.size < b := by rcases hb with hb | hb; exact hb; exact .inr (by omega)
    refine ⟨hb', ?_⟩
    have hbr : b ≠ r := by rcases hb' with e | e; exact (hQ b e).1; omega
    rw [o8 b hbr, u7.other b (hQ' b hb').1]
  refine rbad_spec c3 ?_
  rw [reads_not, boolV_bool, show (!!decide ((0 : Nat) = 0)) = true from rfl, bcase_true]
  refine ris_spec c3 (by simp) ?_
  rw [boolV_bool]
  refine bcase_of (fun h42 => ?_) (fun n42 => ?_)
  · rw [if_pos h42] at hk3
    exact again (.inl h42) fun h' ws' e1 e2 e3 e4 e5 e6 => ⟨j, by omega, _, ws', _, e1, e2, e3, e4, e5, e6, hk3⟩
  rw [if_neg (by rw [n42]; simp)] at hk3
  refine Join1.intro (fun v h' => h' = h3 ∧ v = .bool (ext && isM l [43] q)) ?_ ?_
  · rw [reads_nil, Tryz.fa71_2, addr_add, Nat.zero_add, c3.ld2, boolV_bool]
    refine bcase_of (fun he => ris_spec c3 (by simp) ⟨rfl, by rw [he]; rfl⟩) (fun he => ⟨rfl, by rw [he]; rfl⟩)
  rintro v h4 ⟨rfl, rfl⟩
  rw [boolV_bool]
  refine bcase_of (fun h43 => ?_) (fun n43 => ?_)
  · rw [if_pos h43] at hk3
    have : isM l [43] q = true := by simp only [Bool.and_eq_true] at h43; exact h43.2
    exact again (.inr (by have := isM_lt this; omega)) fun h' ws' e1 e2 e3 e4 e5 e6 => ⟨j, by omega, _, ws', _, e1, e2, e3, e4, e5, e6, hk3⟩
  rw [if_neg (by rw [n43]; simp)] at hk3
  refine Join1.intro (fun v h' => h' = h4 ∧ v = .bool (ext && isM l [63] q)) ?_ ?_
  · rw [reads_nil, Tryz.fa71_2, addr_add, Nat.zero_add, c3.ld2, boolV_bool]
    refine bcase_of (fun he => ris_spec c3 (by simp) ⟨rfl, by rw [he]; rfl⟩) (fun he => ⟨rfl, by rw [he]; rfl⟩)
  rintro v h5 ⟨rfl, rfl⟩
  rw [boolV_bool]
  refine bcase_of (fun h63 => ?_) (fun n63 => ?_)
  · rw [if_pos h63] at hk3
    have : isM l [63] q = true := by simp only [Bool.and_eq_true] at h63; exact h63.2
    exact again (.inr (by have := isM_lt this; omega)) fun h' ws' e1 e2 e3 e4 e5 e6 => ⟨j, by omega, _, ws', _, e1, e2, e3, e4, e5, e6, hk3⟩
  rw [if_neg (by rw [n63]; simp)] at hk3
  have hsl := signM_len (ext := ext) 123
  refine rsign_spec c3 (ris_spec c3 (by omega) ?_)
  rw [boolV_bool]
  refine bcase_of (fun h123 => ?_) (fun n123 => ?_)
  · rw [if_pos h123] at hk3
    have hle := isM_le hq3 h123
    rw [reads_nil, Tryz.fa71_1, addr_add, Nat.zero_add, c3.ld1]
    refine ⟨fun h' => RdrR h' r bv q ext gr 0 0 0, c3.rd, ?_⟩
    refine readsS_lift (fun h k => reads_nil) ?_
    refine readsS_lift (fun h k => Tryz.fa71_1) ?_
    rw [addr_add, Nat.zero_add]
    refine pLoadS_one Tryz.agg3 (v := .int .i64 q) (fun h' hh => by rw [hcell_of hh]; rfl) ?_
    refine ⟨rsign_spec c3 ⟨c3.rd, ?_⟩, trivial⟩
    refine readsS_lift (fun h k => reads_slen Tryz.underlying9) ?_
    rw [reads_add, wrap_nn _ _ (by omega), reads_nil, Tryz.fa71_1, addr_add, Nat.zero_add]
    refine ⟨?_, trivial⟩
    refine c3.goto hle fun h22 f22 s22 o22 c22 => ⟨trivial, ?_⟩
    have b22 := (o22 h.size (by omega)).trans b3
    have d22 := (o22 h1.size (by omega)).trans d3
    refine rinterval_spec (t := u) (frm := q) c22 (fun mn mx q2 hi h23 f23 c23 => ?_) (fun hi h23 q2 f23 c23 => ?_)
    · have s23 := f23.size
      rw [hi] at hk3
      simp only at hk3
      rw [reads_ext0, reads_ext1, reads_ext2, reads_not, boolV_bool, Bool.not_true, bcase_false]
      have b23 := (f23.same h.size (by omega) (by omega)).trans b22
      have d23 := (f23.same h1.size (by omega) (by omega)).trans d22
      have hr23 := c23.rlt
      refine load_all b23 (by rw [Tryz.agg36]; simp [hu.len]) ?_
      have hu23 : IsRe h23 (fun b => (Q b ∨ h1.size < b) ∧ b < h5.size) u ws := hu.frame fun b hb hlt => ⟨⟨hb, hlt⟩, by
        have hbr : b ≠ r := by rcases hb with e | e; exact (hQ b e).1; omega
        rw [f23.same b (by omega) hbr, o22 b hbr]⟩
      refine rrep_spec hu23 fun h26 xs f26 ht26 => ?_
      have s26 := f26.size
      refine storeFull ((f26.same h.size (by omega) (by omega)).trans b23) (xs := xs.toArray) (by rw [Tryz.size36]; simp [ht26.len]) (by simp [ht26.len, hu.len]) (by simpa using ht26.flat) fun h27 u27 => ?_
      have s27 := u27.size
      have f26' : Fm h23.size r h23 h26 := ⟨f26.size, fun k hk _ => f26.same k hk (by omega)⟩
      refine ⟨j, by omega, _, xs, q2, f3.trans ((f22.less (by omega)).trans ((f23.less (by omega)).trans ((f26'.less (by omega)).trans (Fm.upd u27 (.inl (Nat.le_refl _)))))), by omega, (c23.still (f26'.less c23.nle) (f26.same r hr23 (by omega))).upd u27 (by omega) (by omega), u27.same, ⟨cs, (u27.other _ (by omega)).trans ((f26.same _ (by omega) (by omega)).trans d23), z3⟩, ?_, hk3⟩
      refine ht26.frame fun b hb hlt => ?_
      have hb' : Q b ∨ h1.size < b := by rcases hb with hb | hb; exact hb.1; exact .inr (by omega)
      exact ⟨hb', u27.other b (hQ' b hb').1⟩
    · have s23 := f23.size
      rw [hi] at hk3
      rw [reads_ext0, reads_ext1, reads_ext2, reads_not, boolV_bool, Bool.not_false, bcase_true]
      have hr23 := c23.rlt
      refine rfail_spec (e := 7) c23 (by omega) fun h24 f24 c24 => ?_
      have s24 := f24.size
      refine ret_re (t := .node 0 .zero 0 0 0 []) (Q := fun _ => False) ((f24.same _ (by omega) (by omega)).trans ((f23.same h1.size (by omega) (by omega)).trans d22)) z3 (fun _ h => h.elim) IsRe.leaf fun h25 u25 ht => ?_
      exact hk3 h25 _ _ _ (f3.trans ((f22.less (by omega)).trans ((f23.less (by omega)).trans ((f24.less (by omega)).trans (Fm.upd u25 (.inl (by omega))))))) (c24.upd u25 (by omega) (by omega)) (ht.frame fun b hb _ => hb.elim)
  · rw [if_neg (by rw [n123]; simp)] at hk3
    refine load_all b3 (by rw [Tryz.agg36]; simp [hu.len]) ?_
    refine ret_re (Q := fun b => Q b ∨ h1.size < b) d3 z3 (fun x hx => (hQ' x hx).2) hu fun h28 u28 ht28 => ?_
    exact hk3 h28 ws (f3.trans (Fm.upd u28 (.inl (by omega)))) (c3.upd u28 (by omega) (by omega)) (ht28.frame fun b hb _ => ⟨hb.imp id (fun e => by omega), rfl⟩)
end Rt
end Go.Proofs

set_option maxRecDepth 100000
namespace Go.Proofs
open Go.Vcg
namespace Rt
attribute [local congr] Reads.congr ReadsS.congr pLoad.congr pLoadS.congr pStore.congr Runs.congr CallsH.congr bcase.congr boolV.congr Stable.congr pAlloc.congr
variable {n : Nat} {h : Heap} {r : Nat} {bv : Value} {l : List UInt8} {p : Nat} {ext : Bool} {gr code pos lang : Nat} {R : Value → Heap → Prop} {E : List PanicEntry → Heap → Prop}

/-- behind an error nothing more is read -/
theorem rtimes_bad {Q : Nat → Prop} {t : T} {vs : List Value} (c : Kx n h r bv l p ext gr code pos lang) (h0 : code ≠ 0) (ht : IsRe h Q t vs) (hQ : ∀ x, Q x → x ≠ r ∧ x < h.size)
    (hk : ∀ h' vs, Fm h.size r h h' → Kx n h' r bv l p ext gr code pos lang → IsRe h' Q t vs → R (.agg vs.toArray) h') : CallsH Tryz.prog 62 #[ptr r, .agg vs.toArray] h R E := by
  have hr := c.rlt
  have hn := c.nle
  refine C62 ?_
  unfold S62
  refine new_rule fun h1 a1 => alloc_rule Tryz.zero36 fun h2 a2 => ?_
  have s1 := a1.size
  have s2 := a2.size
  have c2 := (c.al a1).al a2
  have f2 : Fm h.size r h h2 := (Fm.al a1 (Nat.le_refl _)).trans (Fm.al a2 (by omega))
  have b2 : h2[h.size]? = some (.cells vs.toArray 36 (0, 0)) := (a2.old _ (by omega)).trans a1.at_
  have ht2 : IsRe h2 Q t vs := ht.frame fun b hb hlt => ⟨hb, f2.same b hlt (hQ b hb).1⟩
  refine Loop0.fuel (fun _ h' => h' = h2) (n := 0) rfl fun j h3 hi => ?_
  subst hi
  refine rbad_spec c2 ?_
  rw [reads_not, boolV_bool, decide_eq_false h0, show (!!false) = false from rfl, bcase_false]
  refine load_all b2 (by rw [Tryz.agg36]; simp [ht.len]) ?_
  refine ret_re (Q := Q) a2.at_ rfl (fun x hx => by have := (hQ x hx).2; omega) ht2 fun h4 u4 ht4 => ?_
  exact hk h4 vs (f2.trans (Fm.upd u4 (.inl (by omega)))) (c2.upd u4 (by omega) (by omega)) ht4
def groupR (ext : Bool) (l : List UInt8) (start gr : Nat) (m : Res (T × Nat × Nat)) : Res (T × Nat × Nat) :=
  if gr = 9 then .bad 5 start else match m with
    | .ok x => if l.length ≤ x.2.1 then .bad 9 x.2.1 else .ok (.node 7 .zero 0 0 (gr + 1) [x.1], x.2.1 + (signM ext 41).length, x.2.2)
    | .bad a b => .bad a b
    | .out => .out
end Rt
end Go.Proofs

set_option maxRecDepth 100000
namespace Go.Proofs
open Go.Vcg
namespace Rt
attribute [local congr] Reads.congr ReadsS.congr pLoad.congr pLoadS.congr pStore.congr Runs.congr CallsH.congr bcase.congr boolV.congr Stable.congr pAlloc.congr
variable {n : Nat} {h : Heap} {r : Nat} {bv : Value} {l : List UInt8} {p : Nat} {ext : Bool} {gr code pos lang : Nat} {R : Value → Heap → Prop} {E : List PanicEntry → Heap → Prop}

theorem rgroup_spec {m : Res (T × Nat × Nat)} (c : Kx n h r bv l p ext gr 0 0 0) (hs : isM l (signM ext 40) p = true)
    (hcode : ∀ e w, m = .bad e w → e ≠ 0) (hend : ∀ t q g, m = .ok (t, q, g) → l.length ≤ q ∨ isM l (signM ext 41) q = true)
    (hread : gr ≠ 9 → ∀ {n : Nat} {h : Heap} {R : Value → Heap → Prop}, Kx n h r bv l (p + (signM ext 40).length) ext (gr + 1) 0 0 0 → OwesK n h r bv l ext m R → CallsH Tryz.prog (if ext then 38 else 39) #[ptr r] h R E)
    (hk : OwesK n h r bv l ext (groupR ext l p gr m) R) : CallsH Tryz.prog 89 #[ptr r] h R E := by
  have hr := c.rlt
  have hl := c.len
  have hn := c.nle
  have hle := isM_le c.le hs
  have hg := c.g9
  refine C89 ?_
  unfold S89
  refine alloc_rule Tryz.zero36 fun h1 a1 => ?_
  have s1 := a1.size
  have c1 := c.al a1
  have f1 : Fm h.size r h h1 := Fm.al a1 (Nat.le_refl _)
  unfold groupR at hk
  -- a tree of an error, given back
  have lost : ∀ {h' : Heap} {q g e w : Nat} {m' : Res (T × Nat × Nat)}, m' = .bad e w → e ≠ 0 → OwesK n h r bv l ext m' R → Fm h1.size r h1 h' → Kx n h' r bv l q ext g 0 0 0 → CallsH Tryz.prog 37 #[ptr r, .int .i64 e, .int .i64 w] h' (fun t15 h2 => pStore Tryz.prog 36 (.pointer (some ⟨h.size, 0, none⟩)) t15 h2 fun h3 => pLoad Tryz.prog 36 (.pointer (some ⟨h.size, 0, none⟩)) h3 fun r2 => R r2 h3) E := by
    intro h' q g e w m' hm he hk f c'
    subst hm
    have sf := f.size
    refine rfail_spec c' he fun h2 f2 c2 => ?_
    have s2 := f2.size
    have hr' := c'.rlt
    refine ret_re (t := .node 0 .zero 0 0 0 []) (Q := fun _ => False) ((f2.same _ (by omega) (by omega)).trans ((f.same _ (by omega) (by omega)).trans a1.at_)) rfl (fun _ h => h.elim) IsRe.leaf fun h3 u3 ht => ?_
    exact hk h3 _ _ _ _ (f1.trans ((f.less (by omega)).trans ((f2.less (by omega)).trans (Fm.upd u3 (.inl (Nat.le_refl _)))))) (c2.upd u3 (by omega) (by omega)) (ht.frame fun b hb _ => hb.elim)
  rw [reads_nil, Tryz.fa71_3, addr_add, Nat.zero_add, c1.ld3, reads_eq, boolV_bool]
  refine bcase_of (fun h9 => ?_) (fun h9 => ?_)
  · have h9 : gr = 9 := by have := of_decide_eq_true h9; omega
    rw [if_pos h9] at hk
    rw [reads_nil, Tryz.fa71_1, addr_add, Nat.zero_add, c1.ld1]
    exact lost (e := 5) rfl (by omega) hk (Fm.refl ..) c1
  have h9 : gr ≠ 9 := by have := of_decide_eq_false h9; omega
  rw [if_neg h9] at hk
  rw [reads_nil, Tryz.fa71_3, addr_add, Nat.zero_add, c1.ld3, reads_add, wrap_n1 _ (by omega), reads_nil, Tryz.fa71_3, addr_add, Nat.zero_add]
  refine store1 c1.rd Tryz.size3 rfl (by simp) fun h4 u4 => ?_
  have s4 := u4.size
  have c4 : Kx n h4 r bv l p ext (gr + 1) 0 0 0 := c1.on (Fm.upd u4 (.inr rfl)) u4.same c.le (by omega)
  rw [reads_nil, Tryz.fa71_3, addr_add, Nat.zero_add, c4.ld3]
  refine ⟨fun h' => RdrR h' r bv p ext (gr + 1) 0 0 0, c4.rd, ?_⟩
  refine readsS_lift (fun h k => reads_nil) ?_
  refine readsS_lift (fun h k => Tryz.fa71_1) ?_
  rw [addr_add, Nat.zero_add]
  refine pLoadS_one Tryz.agg3 (v := .int .i64 p) (fun h' hh => by rw [hcell_of hh]; rfl) ?_
  refine ⟨rsign_spec c4 ⟨c4.rd, ?_⟩, trivial⟩
  refine readsS_lift (fun h k => reads_slen Tryz.underlying9) ?_
  rw [reads_add, wrap_nn _ _ (by omega), reads_nil, Tryz.fa71_1, addr_add, Nat.zero_add]
  refine ⟨?_, trivial⟩
  refine c4.goto hle fun h6 f6 s6 o6 c6 => ⟨trivial, ?_⟩
  refine alloc_rule Tryz.zero36 fun h7 a7 => ?_
  have s7 := a7.size
  have c7 := c6.al a7
  have r7 := c7.rlt
  have f17 : Fm h1.size r h1 h7 := (Fm.upd u4 (.inr rfl)).trans ((f6.less (by omega)).trans (Fm.al a7 (by omega)))
  have J : ∃ J : Heap → Prop, ∀ h', J h' ↔ ∃ (t : T) (vs : List Value) (q g : Nat), Fm h6.size r h7 h' ∧ h'[h6.size]? = some (.cells vs.toArray 36 (0, 0)) ∧ IsRe h' (fun b => h7.size ≤ b) t vs ∧
      ((m = .ok (t, q, g) ∧ Kx n h' r bv l q ext g 0 0 0) ∨ ∃ e w, m = .bad e w ∧ Kx n h' r bv l q ext g e w (langN ext)) := ⟨_, fun _ => Iff.rfl⟩
  obtain ⟨J, hJ⟩ := J
  have content : CallsH Tryz.prog (if ext then 38 else 39) #[ptr r] h7 (fun t42 h8 => pStore Tryz.prog 36 (.pointer (some ⟨h6.size, 0, none⟩)) t42 h8 fun h9 => J h9) E := by
    refine hread h9 c7 ?_
    have put : ∀ {h8 : Heap} {t : T} {vs : List Value}, Fm h7.size r h7 h8 → IsRe h8 (fun b => h7.size ≤ b) t vs → (∀ h9', Upd h8 h9' h6.size (.cells vs.toArray 36 (0, 0)) → J h9') → pStore Tryz.prog 36 (.pointer (some ⟨h6.size, 0, none⟩)) (.agg vs.toArray) h8 fun h9 => J h9 := by
      intro h8 t vs f8 ht hq
      exact storeFull ((f8.same _ (by omega) (by omega)).trans a7.at_) (xs := vs.toArray) (by rw [Tryz.size36]; simp [ht.len]) (by simp [ht.len, Value.cells]) (by simpa using ht.flat) hq
    cases hm : m with
    | out => rw [hm] at hk; exact hk.elim
    | bad e w =>
      intro h8 vs t q g f8 c8 ht
      have s8 := f8.size
      refine put f8 ht fun h9' u9 => (hJ _).2 ⟨t, vs, q, g, ⟨by rw [u9.size]; omega, fun k k1 k2 => (u9.other _ (by omega)).trans (f8.same k (by omega) k2)⟩, u9.same, ht.frame fun b hb _ => ⟨hb, u9.other b (by omega)⟩, .inr ⟨e, w, hm, c8.upd u9 (by omega) (by omega)⟩⟩
    | ok x =>
      obtain ⟨t, q, g⟩ := x
      intro h8 vs f8 c8 ht
      have s8 := f8.size
      refine put f8 ht fun h9' u9 => (hJ _).2 ⟨t, vs, q, g, ⟨by rw [u9.size]; omega, fun k k1 k2 => (u9.other _ (by omega)).trans (f8.same k (by omega) k2)⟩, u9.same, ht.frame fun b hb _ => ⟨hb, u9.other b (by omega)⟩, .inl ⟨hm, c8.upd u9 (by omega) (by omega)⟩⟩
  refine Join0.intro J ?_ ?_
  · rw [reads_nil, Tryz.fa71_2, addr_add, Nat.zero_add, c7.ld2, boolV_bool]
    cases ext
    · exact content
    · exact content
  intro h12 hj
  obtain ⟨t, vs, q, g, f12, b12, ht12, hm⟩ := (hJ _).1 hj
  have s12 := f12.size
  have f112 : Fm h1.size r h1 h12 := f17.trans (f12.less (by omega))
  have d12 := (f112.same h.size (by omega) (by omega)).trans a1.at_
  rcases hm with ⟨hm, c12⟩ | ⟨e, w, hm, c12⟩
  rotate_left
  · rw [hm] at hk
    refine rbad_spec c12 ?_
    rw [decide_eq_false (hcode e w hm), boolV_bool, show (!false) = true from rfl, bcase_true]
    refine load_all b12 (by rw [Tryz.agg36]; simp [ht12.len]) ?_
    refine ret_re (Q := fun b => h7.size ≤ b) d12 rfl (fun x hx => by omega) ht12 fun h14 u14 ht14 => ?_
    exact hk h14 _ _ _ _ (f1.trans ((f112.less (by omega)).trans (Fm.upd u14 (.inl (Nat.le_refl _))))) (c12.upd u14 (by omega) (by omega)) (ht14.frame fun b hb _ => ⟨by omega, rfl⟩)
  have hend := hend t q g hm
  rw [hm] at hk
  simp only at hk
  refine rbad_spec c12 ?_
  rw [show (!decide ((0 : Nat) = 0)) = false from rfl, boolV_bool, bcase_false]
  refine rend_spec c12 ?_
  rw [boolV_bool]
  refine bcase_of (fun he => ?_) (fun he => ?_)
  · have he := of_decide_eq_true he
    rw [if_pos he] at hk
    rw [reads_nil, Tryz.fa71_1, addr_add, Nat.zero_add, c12.ld1]
    exact lost (e := 9) rfl (by omega) hk f112 c12
  have he := of_decide_eq_false he
  rw [if_neg he] at hk
  have hshut := hend.resolve_left he
  have hle2 := isM_le c12.le hshut
  refine ⟨fun h' => RdrR h' r bv q ext g 0 0 0, c12.rd, ?_⟩
  refine readsS_lift (fun h k => reads_nil) ?_
  refine readsS_lift (fun h k => Tryz.fa71_1) ?_
  rw [addr_add, Nat.zero_add]
  refine pLoadS_one Tryz.agg3 (v := .int .i64 q) (fun h' hh => by rw [hcell_of hh]; rfl) ?_
  refine ⟨rsign_spec c12 ⟨c12.rd, ?_⟩, trivial⟩
  refine readsS_lift (fun h k => reads_slen Tryz.underlying9) ?_
  rw [reads_add, wrap_nn _ _ (by omega), reads_nil, Tryz.fa71_1, addr_add, Nat.zero_add]
  refine ⟨?_, trivial⟩
  refine c12.goto hle2 fun h19 f19 s19 o19 c19 => ⟨trivial, ?_⟩
  have r12 := c12.rlt
  refine load_all ((o19 _ (by omega)).trans b12) (by rw [Tryz.agg36]; simp [ht12.len]) ?_
  refine slice1_rule Tryz.info36 Tryz.underlying34 (by simp [Value.cells, ht12.len]) (by omega) (by omega) fun h20 a20 => ?_
  have s20 := a20.size
  rw [Tryz.bd36_0_4_5]
  refine ret_re (t := .node 7 .zero 0 0 (gr + 1) [t]) (vs := reL 7 .zero 0 0 (gr + 1) (.slice (some ⟨h19.size, 0, none⟩) 1 1)) (Q := fun b => h.size < b) ((a20.old h.size (by omega)).trans ((o19 h.size (by omega)).trans d12)) rfl (fun x hx => by omega)
    (IsRe.kid (vs := vs) a20.at_ (by omega) (ht12.frame fun b hb hlt => ⟨by omega, (a20.old b (by omega)).trans (o19 b (by omega))⟩)) fun h21 u21 ht21 => ?_
  have s21 := u21.size
  exact hk h21 _ (f1.trans ((f112.less (by omega)).trans ((f19.less (by omega)).trans ((Fm.al a20 (by omega)).trans (Fm.upd u21 (.inl (Nat.le_refl _))))))) ((c19.al a20).upd u21 (by omega) (by omega)) (ht21.frame fun b hb _ => ⟨by omega, rfl⟩)
end Rt
end Go.Proofs
