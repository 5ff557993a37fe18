/- A part of the proofs over this seat: Int. -/
import Derived.Test.YthlncmkeccgfeaaGreatDoorDig
set_option linter.unusedVariables false
set_option linter.unusedSimpArgs false
set_option maxRecDepth 100000
namespace Go.Proofs
open Go.Vcg Go.Extern
namespace Rt
attribute [local congr] Reads.congr ReadsS.congr pLoad.congr pLoadS.congr pStore.congr Runs.congr CallsH.congr bcase.congr boolV.congr Stable.congr pAlloc.congr
variable {S : Glb} {n : Nat} {h : Heap} {r : Nat} {bv : Value} {l : List UInt8} {p : Nat} {ext : Bool} {op gr : Nat} {R : Value → Heap → Prop} {E : List PanicEntry → Heap → Prop}

/-! ### How often -/
def repM (t : T) (mn mx : Int) : T := .node 6 .zero mn mx 0 [t]
def secondR (l shut : List UInt8) (mn : Int) (p : Nat) : Option (Int × Nat) :=
  if 0 ≤ mn ∧ isM l [44] p = true then (if isM l shut (p + 1) = true then some (-1, p + 1) else if (numR l (p + 1)).1 < 0 then none else some (numR l (p + 1))) else some (mn, p)
def intM (l : List UInt8) (t : T) (frm : Nat) (shut : List UInt8) (p : Nat) : Res (T × Nat) :=
  match secondR l shut (numR l p).1 (numR l p).2 with
  | none => .bad 7 frm
  | some x => if (numR l p).1 < 0 ∨ isM l shut x.2 = false ∨ 255 < (numR l p).1 ∨ 255 < x.1 ∨ (0 ≤ x.1 ∧ x.1 < (numR l p).1) then .bad 7 frm else .ok (repM t (numR l p).1 x.1, x.2 + shut.length)
def OwesN (S : Glb) (n : Nat) (h : Heap) (r : Nat) (bv : Value) (l : List UInt8) (ext : Bool) (op gr : Nat) (Q : Nat → Prop) (m : Res (T × Nat)) (R : Value → Heap → Prop) (E : List PanicEntry → Heap → Prop) : Prop :=
  match m with
  | .out => False
  | .bad code pos => ∀ c h', Fails S h' h.size ext code pos c → Fm h.size r h h' → E c h'
  | .ok x => ∀ h' vs, Fm h.size r h h' → Cx S n h' r bv l x.2 ext op gr → IsRe h' (fun b => Q b ∨ h.size ≤ b) x.1 vs → R (.agg vs.toArray) h'
theorem interval_spec {Q : Nat → Prop} {t : T} {vs : List Value} {frm : Nat} {shut : List UInt8} (c : Cx S n h r bv l p ext op gr) (ht : IsRe h Q t vs) (hQ : ∀ x, Q x → x ≠ r) (hs : shut.length ≤ 4294967296)
    (hk : OwesN S n h r bv l ext op gr Q (intM l t frm shut p) R E) : CallsH Tryz.prog 84 #[ptr r, .agg vs.toArray, .int .i64 frm, str shut] h R E := by
  have hr := c.rlt
  have hl := c.len
  have hn := c.nle
  refine C84 ?_
  unfold S84
  refine new_rule fun h1 a1 => ?_
  have s1 := a1.size
  refine alloc_rule Tryz.zero36 fun h2 a2 => ?_
  have s2 := a2.size
  have c2 := (c.al a1).al a2
  have f2 : Fm h.size r h h2 := (Fm.al a1 (Nat.le_refl _)).trans (Fm.al a2 (by omega))
  have b2 : h2[h.size]? = some (.cells vs.toArray 36 (0, 0)) := (a2.old _ (by omega)).trans a1.at_
  -- only the reader changes until the end
  have only : ∀ {h' : Heap}, Fm h2.size r h2 h' → Fm h.size r h h' := fun f => f2.trans (f.less (by omega))
  have bad : intM l t frm shut p = .bad 7 frm → ∀ {h' : Heap} {q : Nat} {K : Value → Heap → Prop}, Fm h2.size r h2 h' → Cx S n h' r bv l q ext op gr → CallsH Tryz.prog 58 #[ptr r, .int .i64 7, .int .i64 frm] h' K E := by
    intro hb h' q K f c'
    rw [hb] at hk
    refine fail_spec (code := 7) c' (by omega) (by omega) fun e h3 hf f3 => ?_
    have := f.size
    exact hk e h3 (hf.more (by omega)) ((only f).trans (f3.less (by omega)))
  refine number_spec c2 fun h3 f3 _ _ c3 => ?_
  unfold intM at hk bad
  generalize numR l p = N at *
  obtain ⟨mn, p1⟩ := N
  simp only at c3 hk bad
  refine Join1.intro (fun v h' => ∃ mx p2, secondR l shut mn p1 = some (mx, p2) ∧ v = .int .i64 mx ∧ Fm h2.size r h2 h' ∧ Cx S n h' r bv l p2 ext op gr) ?_ ?_
  · refine Join1.intro (fun v h' => ∃ b p2, v = .bool b ∧ Fm h2.size r h2 h' ∧ Cx S n h' r bv l p2 ext op gr ∧ (if b then (0 ≤ mn ∧ isM l [44] p1 = true) ∧ p2 = p1 + 1 else ¬ (0 ≤ mn ∧ isM l [44] p1 = true) ∧ p2 = p1)) ?_ ?_
    · rw [reads_ge, boolV_bool]
      refine bcase_of (fun hg => ?_) (fun hg => ?_)
      · have hg := of_decide_eq_true hg
        refine take_spec c3 (by simp) (fun hy h4 f4 c4 => ?_) (fun hn => ?_)
        · exact ⟨true, _, rfl, f3.trans (f4.less (by have := f3.size; omega)), c4, by rw [if_pos rfl]; exact ⟨⟨hg, hy⟩, rfl⟩⟩
        · exact ⟨false, _, rfl, f3, c3, by rw [if_neg (by simp)]; exact ⟨fun e => absurd e.2 (by rw [hn]; simp), rfl⟩⟩
      · have hg := of_decide_eq_false hg
        exact ⟨false, _, rfl, f3, c3, by rw [if_neg (by simp)]; exact ⟨fun e => hg e.1, rfl⟩⟩
    rintro v h4 ⟨b, p2, rfl, f4, c4, hb⟩
    have s4 := f4.size
    unfold secondR at bad ⊢
    rw [boolV_bool]
    refine bcase_of (fun hy => ?_) (fun hy => ?_)
    · rw [hy] at hb
      simp only [if_true] at hb
      obtain ⟨hb, rfl⟩ := hb
      rw [if_pos hb] at bad ⊢
      refine is_spec c4 hs ?_
      rw [reads_not, boolV_bool]
      refine bcase_of (fun hi => ?_) (fun hi => ?_)
      · have hi' : isM l shut (p1 + 1) = false := by simpa using hi
        rw [if_neg (by rw [hi']; simp)] at bad ⊢
        refine number_spec c4 fun h5 f5 _ _ c5 => ?_
        have f5' : Fm h2.size r h2 h5 := f4.trans (f5.less (by omega))
        rw [reads_lt, boolV_bool]
        refine bcase_of (fun hz => ?_) (fun hz => ?_)
        · have hz := of_decide_eq_true hz
          rw [if_pos hz] at bad
          exact bad rfl f5' c5
        · have hz := of_decide_eq_false hz
          rw [if_neg hz]
          exact ⟨_, _, rfl, rfl, f5', c5⟩
      · have hi' : isM l shut (p1 + 1) = true := by simpa using hi
        rw [if_pos hi']
        exact ⟨_, _, rfl, rfl, f4, c4⟩
    · rw [hy] at hb
      simp only [Bool.false_eq_true, if_false] at hb
      obtain ⟨hb, rfl⟩ := hb
      rw [if_neg hb]
      exact ⟨_, _, rfl, rfl, f4, c4⟩
  rintro v h4 ⟨mx, p2, hsec, rfl, f4, c4⟩
  rw [hsec] at hk bad
  simp only at hk bad
  have s4 := f4.size
  refine Join0.intro (fun h' => ¬ (mn < 0 ∨ isM l shut p2 = false ∨ 255 < mn ∨ 255 < mx ∨ (0 ≤ mx ∧ mx < mn)) ∧ Fm h2.size r h2 h' ∧ Cx S n h' r bv l (p2 + shut.length) ext op gr) ?_ ?_
  · rw [reads_lt, boolV_bool]
    refine bcase_of (fun hc => ?_) (fun hc => ?_)
    · have hc := of_decide_eq_true hc
      rw [if_pos (.inl hc)] at bad
      exact ⟨rfl, rfl, rfl, bad rfl f4 c4⟩
    have h1 := of_decide_eq_false hc
    refine take_spec c4 hs (fun hy h5 f5 c5 => ?_) (fun hn => ?_)
    rotate_left
    · rw [if_pos (.inr (.inl hn))] at bad
      rw [reads_not, boolV_bool, Bool.not_false, bcase_true]
      exact ⟨rfl, rfl, rfl, bad rfl f4 c4⟩
    have f5' : Fm h2.size r h2 h5 := f4.trans (f5.less (by omega))
    rw [reads_not, boolV_bool, Bool.not_true, bcase_false, reads_gt, boolV_bool]
    refine bcase_of (fun hc => ?_) (fun hc => ?_)
    · have hc := of_decide_eq_true hc
      rw [if_pos (.inr (.inr (.inl hc)))] at bad
      exact ⟨rfl, rfl, rfl, bad rfl f5' c5⟩
    have h2' := of_decide_eq_false hc
    rw [reads_gt, boolV_bool]
    refine bcase_of (fun hc => ?_) (fun hc => ?_)
    · have hc := of_decide_eq_true hc
      rw [if_pos (.inr (.inr (.inr (.inl hc))))] at bad
      exact ⟨rfl, rfl, rfl, bad rfl f5' c5⟩
    have h3' := of_decide_eq_false hc
    rw [reads_ge, boolV_bool]
    refine bcase_of (fun hc => ?_) (fun hc => ?_)
    · have h4' := of_decide_eq_true hc
      rw [reads_lt, boolV_bool]
      refine bcase_of (fun hc => ?_) (fun hc => ?_)
      · have hc := of_decide_eq_true hc
        rw [if_pos (.inr (.inr (.inr (.inr ⟨h4', hc⟩))))] at bad
        exact bad rfl f5' c5
      · have h5' := of_decide_eq_false hc
        exact ⟨by rw [hy]; simp; omega, f5', c5⟩
    · have h4' := of_decide_eq_false hc
      exact ⟨by rw [hy]; simp; omega, f5', c5⟩
  rintro h5 ⟨hno, f5, c5⟩
  rw [if_neg hno] at hk
  simp only [OwesN] at hk
  have s5 := f5.size
  have hr5 := c5.rlt
  refine load_all ((f5.same _ (by omega) (by omega)).trans b2) (by rw [Tryz.agg36]; simp [ht.len]) ?_
  have f05 := only f5
  have ht5 : IsRe h5 (fun b => Q b ∧ b < h.size) t vs := ht.frame fun b hb hlt => ⟨⟨hb, hlt⟩, f05.same b hlt (hQ b hb)⟩
  refine rep_spec ht5 fun h6 ws f6 ht6 => ?_
  have s6 := f6.size
  refine ret_re (Q := fun b => (Q b ∧ b < h.size) ∨ h5.size ≤ b) ((f6.same h1.size (by omega) (by omega)).trans ((f5.same _ (by omega) (by omega)).trans a2.at_)) rfl (fun x hx => by rcases hx with hx | hx <;> omega) ht6 fun h7 u7 ht7 => ?_
  have f6' : Fm h5.size r h5 h6 := ⟨f6.size, fun k hk _ => f6.same k hk (by omega)⟩
  refine hk h7 ws (f05.trans ((f6'.less (by omega)).trans (Fm.upd u7 (.inl (by omega))))) ((c5.still (f6'.less c5.nle) (f6.same r hr5 (by omega))).upd u7 (by omega) (by omega)) ?_
  exact ht7.frame fun b hb _ => ⟨hb.imp (fun e => e.1) (fun e => by omega), rfl⟩
end Rt
end Go.Proofs
