/- A part of the proofs over this seat: Wrt. -/
import Derived.Test.YthlncmkeccgfeaaGreatDoorTxt2
set_option linter.unusedVariables false
set_option linter.unusedSimpArgs false
set_option maxRecDepth 100000
namespace Go.Proofs
open Go.Vcg
namespace Rt
attribute [local congr] Reads.congr ReadsS.congr pLoad.congr pLoadS.congr pStore.congr Runs.congr CallsH.congr bcase.congr boolV.congr Stable.congr pAlloc.congr
variable {n b : Nat} {h : Heap} {l : List UInt8} {R : Value → Heap → Prop} {E : List PanicEntry → Heap → Prop}

/-! ### All other bytes -/
/-! ### A tree, written -/
def numM (x : Int) : List UInt8 := baseM 10 x.toNat
def headM (k : Nat) (mn mx : Int) (g : Nat) : List UInt8 :=
  if k = 4 then [40, 99, 97, 116] else if k = 5 then [40, 97, 108, 116] else if k = 6 then [40, 114, 101, 112, 32] ++ numM mn ++ [32] ++ (if 0 ≤ mx then numM mx else [45])
  else if k = 7 then [40, 103, 114, 111, 117, 112, 32] ++ baseM 10 g else []
mutual
def textM : T → List UInt8
  | .node k s mn mx g ts => if k = 1 then (if s = anyW then [46] else setTextM s) else if k = 2 then [94] else if k = 3 then [36] else headM k mn mx g ++ textsM ts ++ [41]
def textsM : List T → List UInt8
  | [] => []
  | t :: ts => (32 :: textM t) ++ textsM ts
end
mutual
def fitT : T → Prop
  | .node _ s mn mx g ts => s.ok ∧ 0 ≤ mn ∧ mn < 2 ^ 63 ∧ mx < 2 ^ 63 ∧ g < 2 ^ 63 ∧ fitL ts
def fitL : List T → Prop
  | [] => True
  | t :: ts => fitT t ∧ fitL ts
end
theorem textsM_append : ∀ (a c : List T), textsM (a ++ c) = textsM a ++ textsM c
  | [], c => by simp [textsM]
  | t :: a, c => by simp only [List.cons_append, textsM, textsM_append a c, List.append_assoc]
theorem textsM_len : ∀ (a : List T), a.length ≤ (textsM a).length
  | [] => by simp
  | t :: a => by have := textsM_len a; simp only [textsM, List.length_cons, List.length_append]; omega
theorem fitL_get : ∀ {a : List T} {i : Nat} (hi : i < a.length), fitL a → fitT a[i]
  | t :: a, 0, _, h => by simp only [fitL] at h; exact h.1
  | t :: a, i + 1, hi, h => by simp only [fitL] at h; exact fitL_get (a := a) (by simpa using hi) h.2

theorem numM_len {x : Int} (hx : x < 2 ^ 63) : (numM x).length ≤ 64 := baseM_len (by omega) 63 _ (by omega)
theorem int_cast {x : Int} (h : 0 ≤ x) : Value.int .i64 x = .int .i64 ((x.toNat : Nat) : Int) := by rw [Int.toNat_of_nonneg h]

mutual
theorem IsRe.frameQ {h h' : Heap} {Q : Nat → Prop} (hq : ∀ b, Q b → ∀ cur, h[b]? = some (.cells cur 36 (0, 0)) → h'[b]? = some (.cells cur 36 (0, 0))) : ∀ {t : T} {vs : List Value}, IsRe h Q t vs → IsRe h' Q t vs
  | .node k s mn mx g ts, vs, hr => by
    simp only [IsRe] at hr ⊢
    obtain ⟨kv, h1, h2⟩ := hr
    refine ⟨kv, h1, h2.imp id ?_⟩
    rintro ⟨b, cap, cur, hQ, e1, e2, e3, e4, e5⟩
    exact ⟨b, cap, cur, hQ, e1, e2, e3, hq b hQ cur e4, IsRow.frameQ hq e5⟩
theorem IsRow.frameQ {h h' : Heap} {Q : Nat → Prop} (hq : ∀ b, Q b → ∀ cur, h[b]? = some (.cells cur 36 (0, 0)) → h'[b]? = some (.cells cur 36 (0, 0))) : ∀ {ts : List T} {vs : List Value}, IsRow h Q ts vs → IsRow h' Q ts vs
  | [], vs, hr => by simpa only [IsRow] using hr
  | t :: ts, vs, hr => by
    simp only [IsRow] at hr ⊢
    obtain ⟨v, vs', h1, h2, h3⟩ := hr
    exact ⟨v, vs', h1, IsRe.frameQ hq h2, IsRow.frameQ hq h3⟩
end
theorem intMax {mx : Int} (h : 0 ≤ mx) (hm : mx < 2 ^ 63) : mx.toNat < 2 ^ 63 := by omega

theorem write_spec : ∀ (m : Nat) {h : Heap} {Q : Nat → Prop} {t : T} {vs : List Value} {n b : Nat} {l : List UInt8} {R : Value → Heap → Prop} {E : List PanicEntry → Heap → Prop}, szT t ≤ m → fitT t → IsRe h Q t vs → (∀ x, Q x → x ≠ b) →
    SB h n b l → n ≤ h.size → l.length + (textM t).length ≤ 1000000 → (∀ h', SB h' n b (l ++ textM t) → Fm n b h h' → Fq b h h' → R (.tuple #[]) h') → CallsH Tryz.prog 44 #[ptr b, .agg vs.toArray] h R E := by
  intro m
  induction m with
  | zero => intro h Q t vs n b l R E hm; cases t; simp [szT] at hm
  | succ m ih =>
    intro h Q t vs n b l R E hm hfit ht hQ sb hn hlen hk
    cases t with
    | node k s mn mx g ts =>
    have hbn : b < n := sb.1
    simp only [fitT] at hfit
    obtain ⟨hs, hmn0, hmn, hmx, hg, hts⟩ := hfit
    unfold textM at hk hlen
    obtain ⟨q, cc, rfl, hkids⟩ := kidsOf ht
    refine C44 ?_
    unfold S44
    refine new_rule fun h1 a1 => ?_
    have s1 := a1.size
    have f1 : Fm n b h h1 := Fm.al a1 hn
    have q1 : Fq b h h1 := Fq.al a1
    have b1 : h1[h.size]? = some (.cells (reL k s mn mx g (.slice q ts.length cc)).toArray 36 (0, 0)) := a1.at_
    have sb1 : SB h1 n b l := sb.fm (Fm.al a1 (Nat.le_refl _))
    -- writing a text and going on
    have put : ∀ {h2 : Heap} {x : List UInt8} {K : Heap → Prop}, Fm n b h h2 → Fq b h1 h2 → SB h2 n b l → x.length + l.length ≤ 1000000 → (∀ (_ : Value) h', SB h' n b (l ++ x) → Fm n b h h' → Fq b h1 h' → K h') → CallsH Tryz.prog 67 #[ptr b, str x] h2 (fun _ h' => K h') E := by
      intro h2 x K f q sb2 hx hK
      have s2 := f.size
      exact wstr_spec sb2 (by omega) (by omega) (by omega) fun h' v sb' f' q' => hK v h' sb' (f.trans f') (q.trans q')
    have keep : ∀ {h2 : Heap}, Fq b h1 h2 → h2[h.size]? = some (.cells (reL k s mn mx g (.slice q ts.length cc)).toArray 36 (0, 0)) := fun q => (q.same h.size (by omega) (by omega) (by rw [b1]; intro cur e; cases e)).trans b1
    refine Join0.intro (fun h' => k ≠ 1 ∧ k ≠ 2 ∧ k ≠ 3 ∧ SB h' n b (l ++ headM k mn mx g) ∧ Fm n b h h' ∧ Fq b h1 h') ?_ ?_
    · rw [Tryz.fa36_0, addr_add, pLoad_one (v := .int .i64 k) Tryz.agg3 (by rw [hcell_of b1]; rfl), reads_eq, show (1 : Int) = ((1 : Nat) : Int) from rfl, dec_nn_eq, boolV_bool]
      refine bcase_of (fun hc => ?_) (fun hk1 => ?_)
      · have e1 := of_decide_eq_true hc
        rw [if_pos e1] at hk hlen
        refine ⟨fun h' => h'[h.size]? = some (.cells (reL k s mn mx g (.slice q ts.length cc)).toArray 36 (0, 0)), b1, ?_⟩
        refine readsS_lift (fun h k => Tryz.fa36_1) ?_
        rw [addr_add, Nat.zero_add]
        refine pLoadS_row (t := 36) Tryz.agg33 (by simp [reL]) (fun h' hh => hh) ?_
        have ev : (((reL k s mn mx g (.slice q ts.length cc)).toArray.toList.drop 1).take 4).toArray = s.vals.toArray := rfl
        rw [ev]
        refine ⟨any_spec fun h2 f2 => ?_, trivial⟩
        have s2 := f2.size
        have b2 := (f2.same h.size (by omega) (by omega)).trans b1
        refine ⟨b2, ?_⟩
        have f02 : Fm n b h h2 := f1.trans (Fm.lift f2 (by omega) (by omega))
        have q12 : Fq b h1 h2 := Fq.of f2 (Nat.le_refl _)
        rw [reads_eqSet, boolV_bool]
        refine bcase_of (fun hc => ?_) (fun hc => ?_)
        · have e := of_decide_eq_true hc
          rw [if_pos e] at hk hlen
          refine put f02 q12 (sb1.fm f2) (by simp at hlen ⊢; omega) fun v h3 sb3 f3 q3 => ?_
          exact hk h3 sb3 f3 (q1.trans q3)
        · have e := of_decide_eq_false hc
          rw [if_neg e] at hk hlen
          rw [Tryz.fa36_1, addr_add, Nat.zero_add]
          refine load_row b2 Tryz.agg33 (by simp [reL]) ?_
          rw [ev]
          refine setText_spec hs fun h3 f3 => ?_
          have s3 := f3.size
          refine put (f02.trans (Fm.lift f3 (by omega) (by omega))) (q12.trans (Fq.of f3 (Nat.le_refl _))) ((sb1.fm f2).fm f3) (by omega) fun v h4 sb4 f4 q4 => ?_
          exact hk h4 sb4 f4 (q1.trans q4)
      have hk1 := of_decide_eq_false hk1
      rw [if_neg hk1] at hk hlen
      rw [reads_eq, show (2 : Int) = ((2 : Nat) : Int) from rfl, dec_nn_eq, boolV_bool]
      refine bcase_of (fun hc => ?_) (fun hk2 => ?_)
      · have e := of_decide_eq_true hc
        rw [if_pos e] at hk hlen
        exact put f1 (Fq.refl ..) sb1 (by simp at hlen ⊢; omega) fun v h3 sb3 f3 q3 => hk h3 sb3 f3 (q1.trans q3)
      have hk2 := of_decide_eq_false hk2
      rw [if_neg hk2] at hk hlen
      rw [reads_eq, show (3 : Int) = ((3 : Nat) : Int) from rfl, dec_nn_eq, boolV_bool]
      refine bcase_of (fun hc => ?_) (fun hk3 => ?_)
      · have e := of_decide_eq_true hc
        rw [if_pos e] at hk hlen
        exact put f1 (Fq.refl ..) sb1 (by simp at hlen ⊢; omega) fun v h3 sb3 f3 q3 => hk h3 sb3 f3 (q1.trans q3)
      have hk3 := of_decide_eq_false hk3
      rw [if_neg hk3] at hk hlen
      have hlh : (headM k mn mx g).length + l.length ≤ 1000000 := by simp at hlen; omega
      have done : ∀ {h' : Heap}, SB h' n b (l ++ headM k mn mx g) → Fm n b h h' → Fq b h1 h' → k ≠ 1 ∧ k ≠ 2 ∧ k ≠ 3 ∧ SB h' n b (l ++ headM k mn mx g) ∧ Fm n b h h' ∧ Fq b h1 h' := fun sb f q => ⟨hk1, hk2, hk3, sb, f, q⟩
      unfold headM at hlh done ⊢
      rw [reads_eq, show (4 : Int) = ((4 : Nat) : Int) from rfl, dec_nn_eq, boolV_bool]
      refine bcase_of (fun hc => ?_) (fun hk4 => ?_)
      · have e := of_decide_eq_true hc
        rw [if_pos e] at hlh done ⊢
        exact put f1 (Fq.refl ..) sb1 hlh fun v h3 sb3 f3 q3 => done sb3 f3 q3
      have hk4 := of_decide_eq_false hk4
      rw [if_neg hk4] at hlh done ⊢
      rw [reads_eq, show (5 : Int) = ((5 : Nat) : Int) from rfl, dec_nn_eq, boolV_bool]
      refine bcase_of (fun hc => ?_) (fun hk5 => ?_)
      · have e := of_decide_eq_true hc
        rw [if_pos e] at hlh done ⊢
        exact put f1 (Fq.refl ..) sb1 hlh fun v h3 sb3 f3 q3 => done sb3 f3 q3
      have hk5 := of_decide_eq_false hk5
      rw [if_neg hk5] at hlh done ⊢
      rw [reads_eq, show (6 : Int) = ((6 : Nat) : Int) from rfl, dec_nn_eq, boolV_bool]
      refine bcase_of (fun hc => ?_) (fun hk6 => ?_)
      · have e := of_decide_eq_true hc
        rw [if_pos e] at hlh done ⊢
        have hl1 := numM_len hmn
        have hl2 := numM_len hmx
        refine Join1.intro (fun v h' => v = str (if 0 ≤ mx then numM mx else [45]) ∧ Fm h1.size h1.size h1 h') ?_ ?_
        · rw [Tryz.fa36_3, addr_add, Nat.zero_add, pLoad_one (v := .int .i64 mx) Tryz.agg3 (by rw [hcell_of b1]; rfl), reads_ge, boolV_bool]
          refine bcase_of (fun hc => ?_) (fun hc => ?_)
          · have hmx0 := of_decide_eq_true hc
            rw [if_pos hmx0, Tryz.fa36_3, addr_add, Nat.zero_add, pLoad_one (v := .int .i64 mx) Tryz.agg3 (by rw [hcell_of b1]; rfl), int_cast hmx0]
            exact num_spec (intMax hmx0 hmx) fun h2 f2 => ⟨rfl, f2⟩
          · have hmx0 := of_decide_eq_false hc
            rw [if_neg hmx0]
            exact ⟨rfl, Fm.refl ..⟩
        rintro v h2 ⟨rfl, f2⟩
        have s2 := f2.size
        have q12 : Fq b h1 h2 := Fq.of f2 (Nat.le_refl _)
        have hll : (if 0 ≤ mx then numM mx else [45]).length ≤ 64 := by split; (exact hl2); (simp)
        rw [Tryz.fa36_2, addr_add, Nat.zero_add, pLoad_one (v := .int .i64 mn) Tryz.agg3 (by rw [hcell_of (keep q12)]; rfl), int_cast hmn0]
        refine num_spec (intMax hmn0 hmn) fun h3 f3 => ?_
        have s3 := f3.size
        rw [show baseM 10 mn.toNat = numM mn from rfl, reads_sadd (by simp; omega), reads_sadd (by simp; omega), reads_sadd (by simp; omega)]
        refine put ((f1.trans (Fm.lift f2 (by omega) (by omega))).trans (Fm.lift f3 (by omega) (by omega))) (q12.trans (Fq.of f3 (Nat.le_refl _))) ((sb1.fm f2).fm f3) hlh fun v h4 sb4 f4 q4 => done sb4 f4 q4
      have hk6 := of_decide_eq_false hk6
      rw [if_neg hk6] at hlh done ⊢
      rw [reads_eq, show (7 : Int) = ((7 : Nat) : Int) from rfl, dec_nn_eq, boolV_bool]
      refine bcase_of (fun hc => ?_) (fun hk7 => ?_)
      · have e := of_decide_eq_true hc
        rw [if_pos e] at hlh done ⊢
        have hl1 := baseM_len (base := 10) (by omega) 63 g (by omega)
        rw [Tryz.fa36_4, addr_add, Nat.zero_add, pLoad_one (v := .int .i64 g) Tryz.agg3 (by rw [hcell_of b1]; rfl)]
        refine num_spec hg fun h2 f2 => ?_
        have s2 := f2.size
        rw [reads_sadd (by simp; omega)]
        exact put (f1.trans (Fm.lift f2 (by omega) (by omega))) (Fq.of f2 (Nat.le_refl _)) (sb1.fm f2) hlh fun v h4 sb4 f4 q4 => done sb4 f4 q4
      have hk7 := of_decide_eq_false hk7
      rw [if_neg hk7] at hlh done ⊢
      rw [List.append_nil] at done ⊢
      exact done sb1 f1 (Fq.refl ..)
    · rintro h2 ⟨hk1, hk2, hk3, sb2, f2, q2⟩
      have s2 := f2.size
      have q2s := q2.size
      rw [if_neg hk1, if_neg hk2, if_neg hk3] at hk hlen
      have htl := textsM_len ts
      rw [List.length_append, List.length_append] at hlen
      rw [Tryz.fa36_5, addr_add, Nat.zero_add, pLoad_one (v := .slice q ts.length cc) Tryz.agg34 (by rw [hcell_of (keep q2)]; rfl), reads_rlen Tryz.underlying34]
      refine Loop1.fuel (fun k' a h' => ∃ i : Nat, i ≤ ts.length ∧ k' = ts.length - i ∧ a = .int .i64 i ∧ Fm n b h h' ∧ Fq b h1 h' ∧ SB h' n b (l ++ headM k mn mx g ++ textsM (ts.take i))) (n := ts.length)
        ⟨0, by omega, by simp, rfl, f2, q2, by simpa [textsM] using sb2⟩ fun k' a h3 hi => ?_
      obtain ⟨i, hi, rfl, rfl, f3, q3, sb3⟩ := hi
      have s3 := f3.size
      have q3s := q3.size
      rw [reads_lt, boolV_bool]
      refine bcase_of (fun hc => ?_) (fun hc => ?_)
      · have hlt : i < ts.length := by have := of_decide_eq_true hc; omega
        have hfull : textsM ts = textsM (ts.take i) ++ ((32 :: textM ts[i]) ++ textsM (ts.drop (i + 1))) := by
          conv => lhs; rw [← List.take_append_drop i ts, textsM_append, List.drop_eq_getElem_cons hlt]
          rfl
        have hnext : textsM (ts.take (i + 1)) = textsM (ts.take i) ++ (32 :: textM ts[i]) := by
          rw [List.take_add_one, List.getElem?_eq_getElem hlt, textsM_append]
          simp [textsM]
        have hlt2 := congrArg List.length hfull
        simp only [List.length_append, List.length_cons] at hlt2
        obtain ⟨bk, cur, rfl, hcur, hbk, hrow⟩ := hkids (by rintro rfl; simp at hlt)
        have hQk : Q bk := by
          simp only [IsRe] at ht
          obtain ⟨kv, h1', h2'⟩ := ht
          have : kv = .slice (some ⟨bk, 0, none⟩) ts.length cc := by
            simp only [reL, List.cons.injEq, and_true] at h1'
            exact h1'.2.2.2.2.2.2.2.2.symm
          subst this
          rcases h2' with ⟨e, _⟩ | ⟨b', cap', cur', hq', e', _⟩
          · subst e; simp at hlt
          · injection e' with e1 e2 e3
            injection e1 with e1
            injection e1 with e1
            subst e1
            exact hq'
        have old : ∀ {h' : Heap}, Fq b h1 h' → ∀ x, Q x → ∀ cur, h[x]? = some (.cells cur 36 (0, 0)) → h'[x]? = some (.cells cur 36 (0, 0)) := by
          intro h' q' x hx cur' e
          have hlt := at_lt e
          have e1 := (a1.old x hlt).trans e
          exact (q'.same x (by omega) (hQ x hx) (by rw [e1]; intro c e; cases e)).trans e1
        have hbk3 := old q3 bk hQk cur hbk
        rw [reads_idxRow Tryz.underlying34 Tryz.size36 hlt, addr_add, Nat.zero_add]
        refine load_row hbk3 Tryz.agg36 (by omega) ?_
        have htk : IsRe h Q ts[i] ((cur.toList.drop (i * 9)).take 9) := by
          have := hrow.get hlt
          rwa [take_drop9 hlt] at this
        refine alloc_rule Tryz.zero36 fun h4 a4 => ?_
        have s4 := a4.size
        refine storeFull a4.at_ (xs := ((cur.toList.drop (i * 9)).take 9).toArray) (by rw [Tryz.size36]; simp only [List.size_toArray, htk.len]) (by simp only [List.size_toArray, htk.len]; rfl) (by simpa using htk.flat) fun h5 hu5 => ?_
        have s5 := hu5.size
        have f35 : Fm h3.size h3.size h3 h5 := (Fm.al a4 (Nat.le_refl _)).trans (Fm.upd hu5 (.inl (Nat.le_refl _)))
        have q5 : Fq b h1 h5 := q3.trans (Fq.of f35 (Nat.le_refl _))
        have f5 : Fm n b h h5 := f3.trans (Fm.lift f35 (by omega) (by omega))
        refine wbyte_spec (c := 32) (sb3.fm f35) (by omega) (by simp only [List.length_append]; omega) fun h6 sb6 f6 q6 => ?_
        have s6 := f6.size
        have hb6 : h6[h3.size]? = some (.cells ((cur.toList.drop (i * 9)).take 9).toArray 36 (0, 0)) := (q6.same h3.size (by omega) (by have := at_lt (show h[bk]? = _ from hbk); omega) (by rw [hu5.same]; intro c e; cases e)).trans hu5.same
        refine load_all hb6 (by rw [Tryz.agg36]; simp only [List.size_toArray, htk.len]) ?_
        have q16 : Fq b h1 h6 := q5.trans q6
        have htk6 : IsRe h6 Q ts[i] ((cur.toList.drop (i * 9)).take 9) := htk.frameQ (old q16)
        have hsz : szT ts[i] ≤ szL ts := szL_get hlt
        refine ih (by simp only [szT] at hm; omega) (fitL_get hlt hts) htk6 hQ sb6 (by omega) (by simp only [List.length_append, List.length_cons, List.length_nil]; omega) fun h7 sb7 f7 q7 => ?_
        rw [reads_add, wrap_n1 _ (by omega)]
        refine ⟨ts.length - (i + 1), by omega, i + 1, by omega, rfl, rfl, (f5.trans f6).trans f7, q16.trans q7, ?_⟩
        rw [hnext]
        simpa using sb7
      · have hil : i = ts.length := by have := of_decide_eq_false hc; omega
        subst hil
        rw [List.take_length] at sb3
        refine wbyte_spec (c := 41) sb3 (by omega) (by simp only [List.length_append]; omega) fun h4 sb4 f4 q4 => ?_
        exact hk h4 (by simpa using sb4) (f3.trans f4) (q1.trans (q3.trans q4))
end Rt
end Go.Proofs
