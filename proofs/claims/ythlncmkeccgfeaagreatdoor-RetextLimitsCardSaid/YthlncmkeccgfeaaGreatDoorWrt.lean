/- A part of the proofs over this seat: Wrt. -/
import Derived.Test.YthlncmkeccgfeaaGreatDoorTxt
set_option linter.unusedVariables false
set_option linter.unusedSimpArgs false
set_option maxRecDepth 100000
namespace Go.Proofs
open Go.Vcg
namespace Rt
attribute [local congr] Reads.congr ReadsS.congr pLoad.congr pLoadS.congr pStore.congr Runs.congr CallsH.congr bcase.congr boolV.congr Stable.congr pAlloc.congr
variable {n b : Nat} {h : Heap} {l : List UInt8} {R : Value → Heap → Prop} {E : List PanicEntry → Heap → Prop}

theorem SB.fm {h' : Heap} (s : SB h n b l) (f : Fm h.size h.size h h') : SB h' n b l := by
  obtain ⟨h1, p, v, h2, h3, h4⟩ := s
  exact ⟨h1, p, v, h2, (f.same b (at_lt h3) (by have := at_lt h3; omega)).trans h3, h4.frame fun k _ hk => f.same k hk (by omega)⟩

def runEnd (s : W4) : Nat → Nat → Nat
  | 0, b => b
  | f + 1, b => if b < 255 then (if s.has (u8 (b + 1)) then runEnd s f (b + 1) else b) else b
def setPut (b e : Nat) (out : List UInt8) : List UInt8 := out ++ (if out = [] then [] else [44]) ++ hexM (u8 b) ++ (if b < e then 45 :: hexM (u8 e) else [])
def setGo (s : W4) : Nat → Nat → List UInt8 → List UInt8
  | 0, _, out => out
  | f + 1, b, out => if b < 256 then (if s.has (u8 b) then setGo s f (runEnd s 256 b + 1) (setPut b (runEnd s 256 b) out) else setGo s f (b + 1) out) else out
def setTextM (s : W4) : List UInt8 := if s = W4.zero then [91, 93] else 91 :: setGo s 257 0 [] ++ [93]

theorem setPut_len {b e : Nat} {out : List UInt8} : (setPut b e out).length ≤ out.length + 300 := by
  have h1 := hexM_len (u8 b)
  have h2 := hexM_len (u8 e)
  unfold setPut
  split <;> split <;> simp <;> omega
theorem setPut_ne {b e : Nat} {out : List UInt8} : setPut b e out ≠ [] := by
  intro hn
  have := congrArg List.length hn
  unfold setPut at this
  have hp : 1 ≤ (hexM (u8 b)).length := by unfold hexM; simp
  simp only [List.length_append, List.length_nil] at this
  omega
theorem runEnd_ge (s : W4) : ∀ (f b : Nat), b ≤ runEnd s f b
  | 0, b => Nat.le_refl _
  | f + 1, b => by
    unfold runEnd
    have := runEnd_ge s f (b + 1)
    split
    · split <;> omega
    · omega
theorem runEnd_le (s : W4) : ∀ (f b : Nat), b ≤ 255 → runEnd s f b ≤ 255
  | 0, b, h => h
  | f + 1, b, h => by
    unfold runEnd
    split
    · split
      · exact runEnd_le s f (b + 1) (by omega)
      · omega
    · omega
theorem setGo_ne (s : W4) : ∀ (f b : Nat) (out : List UInt8), out ≠ [] → setGo s f b out ≠ []
  | 0, _, _, h => h
  | f + 1, b, out, h => by
    unfold setGo
    split
    · split
      · exact setGo_ne s f _ _ setPut_ne
      · exact setGo_ne s f _ _ h
    · exact h
theorem setGo_some (s : W4) {c : Nat} (hc : c < 256) (hs : s.has (u8 c) = true) : ∀ (f b : Nat) (out : List UInt8), b ≤ c → 257 ≤ f + b → setGo s f b out ≠ []
  | 0, b, out, h, h' => by omega
  | f + 1, b, out, h, h' => by
    unfold setGo
    rw [if_pos (by omega)]
    split
    · exact setGo_ne s f _ _ setPut_ne
    · rename_i hb
      have : b ≠ c := by rintro rfl; exact hb hs
      exact setGo_some s hc hs f (b + 1) out (by omega) (by omega)
theorem W4.some_has {s : W4} (hs : s.ok) (h0 : s ≠ W4.zero) : ∃ c, c < 256 ∧ s.has (u8 c) = true := by
  have key : ∀ i, i < 4 → s.word i ≠ 0 → ∃ c, c < 256 ∧ s.has (u8 c) = true := by
    intro i hi hw
    obtain ⟨j, hj⟩ := Nat.exists_testBit_of_ne_zero hw
    have hj64 : j < 64 := by
      apply Nat.lt_of_not_le
      intro hle
      have : s.word i < 2 ^ j := Nat.lt_of_lt_of_le (W4.word_lt hs i) (Nat.pow_le_pow_right (by omega) hle)
      rw [Nat.testBit_lt_two_pow this] at hj
      cases hj
    refine ⟨i * 64 + j, by omega, ?_⟩
    unfold W4.has
    rw [u8_toNat (by omega), show (i * 64 + j) / 64 = i by omega, show (i * 64 + j) % 64 = j by omega]
    exact hj
  by_cases ha : s.a = 0
  · by_cases hb : s.b = 0
    · by_cases hc : s.c = 0
      · by_cases hd : s.d = 0
        · exact absurd (by cases s; simp_all [W4.zero]) h0
        · exact key 3 (by omega) hd
      · exact key 2 (by omega) hc
    · exact key 1 (by omega) hb
  · exact key 0 (by omega) ha

theorem setText_spec {s : W4} (hs : s.ok) (hk : ∀ h', Fm h.size h.size h h' → R (str (setTextM s)) h') : CallsH Tryz.prog 68 #[.agg s.vals.toArray] h R E := by
  refine C68 ?_
  unfold S68
  refine new_rule fun h1 a1 => ?_
  have s1 := a1.size
  refine load_all a1.at_ Tryz.agg33 ?_
  rw [Tryz.bd33]
  refine cast (congrArg (fun z => z) (reads_eqSet (s := s) (u := W4.zero) (c := false)).symm) ?_
  rw [boolV_bool]
  refine bcase_of (fun hc => ?_) (fun hc => ?_)
  · have e := of_decide_eq_true hc
    have := hk h1 (Fm.al a1 (Nat.le_refl _))
    rw [setTextM, if_pos e] at this
    exact this
  have hne : s ≠ W4.zero := of_decide_eq_false hc
  refine alloc_rule Tryz.zero87 fun h2 a2 => ?_
  have s2 := a2.size
  have fall : ∀ {h'}, Fm h2.size h1.size h2 h' → Fm h.size h.size h h' := fun f => ((Fm.al a1 (Nat.le_refl _)).trans (Fm.al a2 (by omega))).trans ⟨f.size, fun k hk _ => f.same k (by omega) (by omega)⟩
  have b1 : h2[h.size]? = some (.cells s.vals.toArray 33 (0, 0)) := (a2.old h.size (by omega)).trans a1.at_
  have hb2 : SB h2 h2.size h1.size [] := ⟨by omega, .pointer none, .slice none 0 0, .inl rfl, a2.at_, Owns.nil ..⟩
  have at1 : ∀ {h'}, Fm h2.size h1.size h2 h' → h'[h.size]? = some (.cells s.vals.toArray 33 (0, 0)) := fun f => (f.same h.size (by omega) (by omega)).trans b1
  refine Loop1.fuel (fun k a h' => ∃ (i : Nat) (out : List UInt8), a = .int .i64 i ∧ i ≤ 256 ∧ 257 ≤ k + i ∧ setGo s k i out = setGo s 257 0 [] ∧ out.length ≤ 300 * i ∧ Fm h2.size h1.size h2 h' ∧ SB h' h2.size h1.size out) (n := 257)
    ⟨0, [], rfl, by omega, by omega, rfl, by simp, Fm.refl .., hb2⟩ fun k a h3 hi => ?_
  obtain ⟨i, out, rfl, hi, hki, hgo, hol, f3, sb3⟩ := hi
  have s3 := f3.size
  rw [reads_lt, boolV_bool]
  refine bcase_of (fun hc => ?_) (fun hc => ?_)
  · have hlt : i < 256 := by have := of_decide_eq_true hc; omega
    obtain ⟨k, rfl⟩ : ∃ k', k = k' + 1 := ⟨k - 1, by omega⟩
    unfold setGo at hgo
    rw [if_pos hlt] at hgo
    refine load_all (at1 f3) Tryz.agg33 ?_
    rw [reads_conv_int Tryz.underlying3 Tryz.underlying5, wrap_u8 hlt]
    rw [val_u8 hlt]
    refine has_spec hs fun h4 f4 => ?_
    have s4 := f4.size
    have f24 : Fm h2.size h1.size h2 h4 := f3.trans (Fm.lift f4 (by omega) (by omega))
    have sb4 := sb3.fm f4
    rw [reads_not, boolV_bool]
    refine bcase_of (fun hh => ?_) (fun hh => ?_)
    · have hh : s.has (u8 i) = false := by simpa using hh
      rw [hh, if_neg (by simp)] at hgo
      rw [reads_add, wrap_n1 _ (by omega)]
      exact ⟨k, by omega, i + 1, out, rfl, by omega, by omega, hgo, by omega, f24, sb4⟩
    · have hh : s.has (u8 i) = true := by simpa using hh
      rw [hh, if_pos rfl] at hgo
      have hge := runEnd_ge s 256 i
      have hle := runEnd_le s 256 i (by omega)
      -- what is behind the end of the run
      have fin : ∀ {h5}, Fm h2.size h1.size h2 h5 → SB h5 h2.size h1.size out →
          Join0 (fun J8 => CallsH Tryz.prog 99 #[ptr h1.size] h5 (fun t30 h7 => Reads Tryz.prog (binS .gtr 3 true t30 (.int .i64 0)) h7 fun t31 => boolV t31 fun b9 => bcase b9 (CallsH Tryz.prog 70 #[ptr h1.size, (.int .u8 44)] h7 (fun t32 h8 => J8 h8) E) (J8 h7)) E)
          (fun h9 => Reads Tryz.prog (convert 3 5 (.int .i64 i)) h9 fun t34 => CallsH Tryz.prog 100 #[t34] h9 (fun t35 h10 => CallsH Tryz.prog 67 #[ptr h1.size, t35] h10 (fun t36 h11 =>
            Reads Tryz.prog (binS .gtr 3 false (.int .i64 (runEnd s 256 i)) (.int .i64 i)) h11 fun t39 => boolV t39 fun b10 => bcase b10 (
              Reads Tryz.prog (convert 3 5 (.int .i64 (runEnd s 256 i))) h11 fun t41 => CallsH Tryz.prog 100 #[t41] h11 (fun t42 h12 => Reads Tryz.prog (binS .add 9 true (str [45]) t42) h12 fun t43 => CallsH Tryz.prog 67 #[ptr h1.size, t43] h12 (fun t44 h13 =>
                Reads Tryz.prog (binS .add 3 true (.int .i64 (runEnd s 256 i)) (.int .i64 1)) h13 fun t12_2 => ∃ j, j < k + 1 ∧ ∃ (i : Nat) (out : List UInt8), t12_2 = .int .i64 i ∧ i ≤ 256 ∧ 257 ≤ j + i ∧ setGo s j i out = setGo s 257 0 [] ∧ out.length ≤ 300 * i ∧ Fm h2.size h1.size h2 h13 ∧ SB h13 h2.size h1.size out) E) E) (
              Reads Tryz.prog (binS .add 3 true (.int .i64 (runEnd s 256 i)) (.int .i64 1)) h11 fun t12_2 => ∃ j, j < k + 1 ∧ ∃ (i : Nat) (out : List UInt8), t12_2 = .int .i64 i ∧ i ≤ 256 ∧ 257 ≤ j + i ∧ setGo s j i out = setGo s 257 0 [] ∧ out.length ≤ 300 * i ∧ Fm h2.size h1.size h2 h11 ∧ SB h11 h2.size h1.size out)) E) E) := by
        intro h5 f5 sb5
        have s5 := f5.size
        refine Join0.intro (fun h' => Fm h2.size h1.size h2 h' ∧ SB h' h2.size h1.size (out ++ if out = [] then [] else [44])) ?_ ?_
        · refine blen_spec sb5 ?_
          rw [reads_gt, boolV_bool]
          refine bcase_of (fun hc => ?_) (fun hc => ?_)
          · have : out ≠ [] := by rintro rfl; simp at hc
            rw [if_neg this]
            exact wbyte_spec (c := 44) sb5 s5 (by omega) fun h8 sb8 f8 _ => ⟨f5.trans f8, sb8⟩
          · have : out = [] := by
              have := of_decide_eq_false hc
              exact List.length_eq_zero_iff.1 (by omega)
            rw [if_pos this, List.append_nil]
            exact ⟨f5, sb5⟩
        · rintro h9 ⟨f9, sb9⟩
          have s9 := f9.size
          have hx1 := hexM_len (u8 i)
          have hx2 := hexM_len (u8 (runEnd s 256 i))
          have hsl : (out ++ if out = [] then [] else [44]).length ≤ out.length + 1 := by split <;> simp
          rw [reads_conv_int Tryz.underlying3 Tryz.underlying5, wrap_u8 hlt]
          rw [val_u8 hlt]
          refine hex_spec fun h10 f10 => ?_
          have f29 : Fm h2.size h1.size h2 h10 := f9.trans (Fm.lift f10 (by omega) (by omega))
          have s10 := f10.size
          refine wstr_spec (sb9.fm f10) (by omega) (by omega) (by omega) fun h11 v sb11 f11 _ => ?_
          have f211 := f29.trans f11
          have s11 := f11.size
          rw [reads_gt, boolV_bool]
          refine bcase_of (fun hc => ?_) (fun hc => ?_)
          · have hlt2 : i < runEnd s 256 i := by have := of_decide_eq_true hc; omega
            rw [reads_conv_int Tryz.underlying3 Tryz.underlying5, wrap_u8 (by omega)]
            rw [val_u8 (show runEnd s 256 i < 256 by omega)]
            refine hex_spec fun h12 f12 => ?_
            have s12 := f12.size
            rw [reads_sadd (by simp; omega)]
            refine wstr_spec (sb11.fm f12) (by omega) (by simp at hsl ⊢; omega) (by simp; omega) fun h13 v sb13 f13 _ => ?_
            rw [reads_add, wrap_n1 _ (by omega)]
            have hp : (out ++ if out = [] then [] else [44]) ++ hexM (u8 i) ++ ([45] ++ hexM (u8 (runEnd s 256 i))) = setPut i (runEnd s 256 i) out := by
              unfold setPut; rw [if_pos hlt2]; rfl
            rw [hp] at sb13
            exact ⟨k, by omega, runEnd s 256 i + 1, _, rfl, by omega, by omega, hgo, by have := setPut_len (b := i) (e := runEnd s 256 i) (out := out); omega, (f211.trans (Fm.lift f12 (by omega) (by omega))).trans f13, sb13⟩
          · have hlt2 : ¬ i < runEnd s 256 i := by have := of_decide_eq_false hc; omega
            rw [reads_add, wrap_n1 _ (by omega)]
            have hp : (out ++ if out = [] then [] else [44]) ++ hexM (u8 i) = setPut i (runEnd s 256 i) out := by
              unfold setPut; rw [if_neg hlt2]; simp
            rw [hp] at sb11
            exact ⟨k, by omega, runEnd s 256 i + 1, _, rfl, by omega, by omega, hgo, by have := setPut_len (b := i) (e := runEnd s 256 i) (out := out); omega, f211, sb11⟩
      refine Loop1.fuel (fun q a h' => ∃ (e : Nat), a = .int .i64 e ∧ i ≤ e ∧ e ≤ 255 ∧ 255 ≤ q + e ∧ runEnd s q e = runEnd s 256 i ∧ Fm h2.size h1.size h2 h' ∧ SB h' h2.size h1.size out) (n := 256) ⟨i, rfl, Nat.le_refl _, by omega, by omega, rfl, f24, sb4⟩ fun q a h5 hq => ?_
      obtain ⟨e, rfl, hie, he, hqe, hrun, f5, sb5⟩ := hq
      have s5 := f5.size
      rw [reads_lt, boolV_bool]
      refine bcase_of (fun hc => ?_) (fun hc => ?_)
      · have hlt5 : e < 255 := by have := of_decide_eq_true hc; omega
        obtain ⟨q, rfl⟩ : ∃ q', q = q' + 1 := ⟨q - 1, by omega⟩
        unfold runEnd at hrun
        rw [if_pos hlt5] at hrun
        refine load_all (at1 f5) Tryz.agg33 ?_
        rw [reads_add, wrap_n1 _ (by omega), reads_conv_int Tryz.underlying3 Tryz.underlying5, wrap_u8 (by omega)]
        rw [val_u8 (show e + 1 < 256 by omega)]
        refine has_spec hs fun h6 f6 => ?_
        have s6 := f6.size
        have f26 : Fm h2.size h1.size h2 h6 := f5.trans (Fm.lift f6 (by omega) (by omega))
        rw [boolV_bool]
        refine bcase_of (fun hh => ?_) (fun hh => ?_)
        · rw [hh, if_pos rfl] at hrun
          rw [reads_add, wrap_n1 _ (by omega)]
          exact ⟨q, by omega, e + 1, rfl, by omega, by omega, by omega, hrun, f26, sb5.fm f6⟩
        · rw [hh] at hrun
          have hrun : e = runEnd s 256 i := by rw [if_neg (by simp)] at hrun; exact hrun
          rw [hrun]
          exact fin f26 (sb5.fm f6)
      · have hrun : e = runEnd s 256 i := by
          have h255 : ¬ e < 255 := by have := of_decide_eq_false hc; omega
          cases q with
          | zero => exact hrun
          | succ q => unfold runEnd at hrun; rw [if_neg h255] at hrun; exact hrun
        rw [hrun]
        exact fin f5 sb5
  · have hil : i = 256 := by have := of_decide_eq_false hc; omega
    subst hil
    have hout : out = setGo s 257 0 [] := by
      rw [← hgo]
      cases k with
      | zero => rfl
      | succ k => unfold setGo; rw [if_neg (by omega)]
    obtain ⟨c, hc256, hcs⟩ := W4.some_has hs hne
    have h0 : out ≠ [] := by rw [hout]; exact setGo_some s hc256 hcs 257 0 [] (by omega) (by omega)
    refine string_spec sb3 h0 (by omega) fun h4 s4 f4 => ?_
    rw [reads_sadd (by simp; omega), reads_sadd (by simp; omega)]
    have f24 : Fm h2.size h1.size h2 h4 := f3.trans ⟨by omega, fun k hk _ => f4 k hk⟩
    have := hk h4 (fall f24)
    rw [setTextM, if_neg hne, ← hout] at this
    exact this
end Rt
end Go.Proofs

set_option maxRecDepth 100000
namespace Go.Proofs
open Go.Vcg
namespace Rt
attribute [local congr] Reads.congr ReadsS.congr pLoad.congr pLoadS.congr pStore.congr Runs.congr CallsH.congr bcase.congr boolV.congr Stable.congr pAlloc.congr
variable {n b : Nat} {h : Heap} {l : List UInt8} {R : Value → Heap → Prop} {E : List PanicEntry → Heap → Prop}

/-! ### All other bytes -/
/-! ### A tree, written -/
def numM (x : Int) : List UInt8 := baseM 10 x.toNat
def headM (k : Nat) (mn mx : Int) (g : Nat) : List UInt8 :=
  if k = 4 then [40, 99, 97, 116] else if k = 5 then [40, 97, 108, 116] else if k = 6 then [40, 114, 101, 112, 32] ++ numM mn ++ [32] ++ (if 0 ≤ mx then numM mx else [45])
  else if k = 7 then [40, 103, 114, 111, 117, 112, 32] ++ baseM 10 g else []
mutual
def textM : T → List UInt8
  | .node k s mn mx g ts => if k = 1 then (if s = anyW then [46] else setTextM s) else if k = 2 then [94] else if k = 3 then [36] else headM k mn mx g ++ textsM ts ++ [41]
def textsM : List T → List UInt8
  | [] => []
  | t :: ts => (32 :: textM t) ++ textsM ts
end
mutual
def fitT : T → Prop
  | .node _ s mn mx g ts => s.ok ∧ 0 ≤ mn ∧ mn < 2 ^ 63 ∧ mx < 2 ^ 63 ∧ g < 2 ^ 63 ∧ fitL ts
def fitL : List T → Prop
  | [] => True
  | t :: ts => fitT t ∧ fitL ts
end
theorem textsM_append : ∀ (a c : List T), textsM (a ++ c) = textsM a ++ textsM c
  | [], c => by simp [textsM]
  | t :: a, c => by simp only [List.cons_append, textsM, textsM_append a c, List.append_assoc]
theorem textsM_len : ∀ (a : List T), a.length ≤ (textsM a).length
  | [] => by simp
  | t :: a => by have := textsM_len a; simp only [textsM, List.length_cons, List.length_append]; omega
theorem fitL_get : ∀ {a : List T} {i : Nat} (hi : i < a.length), fitL a → fitT a[i]
  | t :: a, 0, _, h => by simp only [fitL] at h; exact h.1
  | t :: a, i + 1, hi, h => by simp only [fitL] at h; exact fitL_get (a := a) (by simpa using hi) h.2

theorem numM_len {x : Int} (hx : x < 2 ^ 63) : (numM x).length ≤ 64 := baseM_len (by omega) 63 _ (by omega)
theorem int_cast {x : Int} (h : 0 ≤ x) : Value.int .i64 x = .int .i64 ((x.toNat : Nat) : Int) := by rw [Int.toNat_of_nonneg h]

mutual
theorem IsRe.frameQ {h h' : Heap} {Q : Nat → Prop} (hq : ∀ b, Q b → ∀ cur, h[b]? = some (.cells cur 36 (0, 0)) → h'[b]? = some (.cells cur 36 (0, 0))) : ∀ {t : T} {vs : List Value}, IsRe h Q t vs → IsRe h' Q t vs
  | .node k s mn mx g ts, vs, hr => by
    simp only [IsRe] at hr ⊢
    obtain ⟨kv, h1, h2⟩ := hr
    refine ⟨kv, h1, h2.imp id ?_⟩
    rintro ⟨b, cap, cur, hQ, e1, e2, e3, e4, e5⟩
    exact ⟨b, cap, cur, hQ, e1, e2, e3, hq b hQ cur e4, IsRow.frameQ hq e5⟩
theorem IsRow.frameQ {h h' : Heap} {Q : Nat → Prop} (hq : ∀ b, Q b → ∀ cur, h[b]? = some (.cells cur 36 (0, 0)) → h'[b]? = some (.cells cur 36 (0, 0))) : ∀ {ts : List T} {vs : List Value}, IsRow h Q ts vs → IsRow h' Q ts vs
  | [], vs, hr => by simpa only [IsRow] using hr
  | t :: ts, vs, hr => by
    simp only [IsRow] at hr ⊢
    obtain ⟨v, vs', h1, h2, h3⟩ := hr
    exact ⟨v, vs', h1, IsRe.frameQ hq h2, IsRow.frameQ hq h3⟩
end
theorem intMax {mx : Int} (h : 0 ≤ mx) (hm : mx < 2 ^ 63) : mx.toNat < 2 ^ 63 := by omega

theorem write_spec : ∀ (m : Nat) {h : Heap} {Q : Nat → Prop} {t : T} {vs : List Value} {n b : Nat} {l : List UInt8} {R : Value → Heap → Prop} {E : List PanicEntry → Heap → Prop}, szT t ≤ m → fitT t → IsRe h Q t vs → (∀ x, Q x → x ≠ b) →
    SB h n b l → n ≤ h.size → l.length + (textM t).length ≤ 1000000 → (∀ h', SB h' n b (l ++ textM t) → Fm n b h h' → Fq b h h' → R (.tuple #[]) h') → CallsH Tryz.prog 44 #[ptr b, .agg vs.toArray] h R E := by
  intro m
  induction m with
  | zero => intro h Q t vs n b l R E hm; cases t; simp [szT] at hm
  | succ m ih =>
    intro h Q t vs n b l R E hm hfit ht hQ sb hn hlen hk
    cases t with
    | node k s mn mx g ts =>
    have hbn : b < n := sb.1
    simp only [fitT] at hfit
    obtain ⟨hs, hmn0, hmn, hmx, hg, hts⟩ := hfit
    unfold textM at hk hlen
    obtain ⟨q, cc, rfl, hkids⟩ := kidsOf ht
    refine C44 ?_
    unfold S44
    refine new_rule fun h1 a1 => ?_
    have s1 := a1.size
    have f1 : Fm n b h h1 := Fm.al a1 hn
    have q1 : Fq b h h1 := Fq.al a1
    have b1 : h1[h.size]? = some (.cells (reL k s mn mx g (.slice q ts.length cc)).toArray 36 (0, 0)) := a1.at_
    have sb1 : SB h1 n b l := sb.fm (Fm.al a1 (Nat.le_refl _))
    -- writing a text and going on
    have put : ∀ {h2 : Heap} {x : List UInt8} {K : Heap → Prop}, Fm n b h h2 → Fq b h1 h2 → SB h2 n b l → x.length + l.length ≤ 1000000 → (∀ (_ : Value) h', SB h' n b (l ++ x) → Fm n b h h' → Fq b h1 h' → K h') → CallsH Tryz.prog 67 #[ptr b, str x] h2 (fun _ h' => K h') E := by
      intro h2 x K f q sb2 hx hK
      have s2 := f.size
      exact wstr_spec sb2 (by omega) (by omega) (by omega) fun h' v sb' f' q' => hK v h' sb' (f.trans f') (q.trans q')
    have keep : ∀ {h2 : Heap}, Fq b h1 h2 → h2[h.size]? = some (.cells (reL k s mn mx g (.slice q ts.length cc)).toArray 36 (0, 0)) := fun q => (q.same h.size (by omega) (by omega) (by rw [b1]; intro cur e; cases e)).trans b1
    refine Join0.intro (fun h' => k ≠ 1 ∧ k ≠ 2 ∧ k ≠ 3 ∧ SB h' n b (l ++ headM k mn mx g) ∧ Fm n b h h' ∧ Fq b h1 h') ?_ ?_
    · rw [Tryz.fa36_0, addr_add, pLoad_one (v := .int .i64 k) Tryz.agg3 (by rw [hcell_of b1]; rfl), reads_eq, show (1 : Int) = ((1 : Nat) : Int) from rfl, dec_nn_eq, boolV_bool]
      refine bcase_of (fun hc => ?_) (fun hk1 => ?_)
      · have e1 := of_decide_eq_true hc
        rw [if_pos e1] at hk hlen
        refine ⟨fun h' => h'[h.size]? = some (.cells (reL k s mn mx g (.slice q ts.length cc)).toArray 36 (0, 0)), b1, ?_⟩
        refine readsS_lift (fun h k => Tryz.fa36_1) ?_
        rw [addr_add, Nat.zero_add]
        refine pLoadS_row (t := 36) Tryz.agg33 (by simp [reL]) (fun h' hh => hh) ?_
        have ev : (((reL k s mn mx g (.slice q ts.length cc)).toArray.toList.drop 1).take 4).toArray = s.vals.toArray := rfl
        rw [ev]
        refine ⟨any_spec fun h2 f2 => ?_, trivial⟩
        have s2 := f2.size
        have b2 := (f2.same h.size (by omega) (by omega)).trans b1
        refine ⟨b2, ?_⟩
        have f02 : Fm n b h h2 := f1.trans (Fm.lift f2 (by omega) (by omega))
        have q12 : Fq b h1 h2 := Fq.of f2 (Nat.le_refl _)
        rw [reads_eqSet, boolV_bool]
        refine bcase_of (fun hc => ?_) (fun hc => ?_)
        · have e := of_decide_eq_true hc
          rw [if_pos e] at hk hlen
          refine put f02 q12 (sb1.fm f2) (by simp at hlen ⊢; omega) fun v h3 sb3 f3 q3 => ?_
          exact hk h3 sb3 f3 (q1.trans q3)
        · have e := of_decide_eq_false hc
          rw [if_neg e] at hk hlen
          rw [Tryz.fa36_1, addr_add, Nat.zero_add]
          refine load_row b2 Tryz.agg33 (by simp [reL]) ?_
          rw [ev]
          refine setText_spec hs fun h3 f3 => ?_
          have s3 := f3.size
          refine put (f02.trans (Fm.lift f3 (by omega) (by omega))) (q12.trans (Fq.of f3 (Nat.le_refl _))) ((sb1.fm f2).fm f3) (by omega) fun v h4 sb4 f4 q4 => ?_
          exact hk h4 sb4 f4 (q1.trans q4)
      have hk1 := of_decide_eq_false hk1
      rw [if_neg hk1] at hk hlen
      rw [reads_eq, show (2 : Int) = ((2 : Nat) : Int) from rfl, dec_nn_eq, boolV_bool]
      refine bcase_of (fun hc => ?_) (fun hk2 => ?_)
      · have e := of_decide_eq_true hc
        rw [if_pos e] at hk hlen
        exact put f1 (Fq.refl ..) sb1 (by simp at hlen ⊢; omega) fun v h3 sb3 f3 q3 => hk h3 sb3 f3 (q1.trans q3)
      have hk2 := of_decide_eq_false hk2
      rw [if_neg hk2] at hk hlen
      rw [reads_eq, show (3 : Int) = ((3 : Nat) : Int) from rfl, dec_nn_eq, boolV_bool]
      refine bcase_of (fun hc => ?_) (fun hk3 => ?_)
      · have e := of_decide_eq_true hc
        rw [if_pos e] at hk hlen
        exact put f1 (Fq.refl ..) sb1 (by simp at hlen ⊢; omega) fun v h3 sb3 f3 q3 => hk h3 sb3 f3 (q1.trans q3)
      have hk3 := of_decide_eq_false hk3
      rw [if_neg hk3] at hk hlen
      have hlh : (headM k mn mx g).length + l.length ≤ 1000000 := by simp at hlen; omega
      have done : ∀ {h' : Heap}, SB h' n b (l ++ headM k mn mx g) → Fm n b h h' → Fq b h1 h' → k ≠ 1 ∧ k ≠ 2 ∧ k ≠ 3 ∧ SB h' n b (l ++ headM k mn mx g) ∧ Fm n b h h' ∧ Fq b h1 h' := fun sb f q => ⟨hk1, hk2, hk3, sb, f, q⟩
      unfold headM at hlh done ⊢
      rw [reads_eq, show (4 : Int) = ((4 : Nat) : Int) from rfl, dec_nn_eq, boolV_bool]
      refine bcase_of (fun hc => ?_) (fun hk4 => ?_)
      · have e := of_decide_eq_true hc
        rw [if_pos e] at hlh done ⊢
        exact put f1 (Fq.refl ..) sb1 hlh fun v h3 sb3 f3 q3 => done sb3 f3 q3
      have hk4 := of_decide_eq_false hk4
      rw [if_neg hk4] at hlh done ⊢
      rw [reads_eq, show (5 : Int) = ((5 : Nat) : Int) from rfl, dec_nn_eq, boolV_bool]
      refine bcase_of (fun hc => ?_) (fun hk5 => ?_)
      · have e := of_decide_eq_true hc
        rw [if_pos e] at hlh done ⊢
        exact put f1 (Fq.refl ..) sb1 hlh fun v h3 sb3 f3 q3 => done sb3 f3 q3
      have hk5 := of_decide_eq_false hk5
      rw [if_neg hk5] at hlh done ⊢
      rw [reads_eq, show (6 : Int) = ((6 : Nat) : Int) from rfl, dec_nn_eq, boolV_bool]
      refine bcase_of (fun hc => ?_) (fun hk6 => ?_)
      · have e := of_decide_eq_true hc
        rw [if_pos e] at hlh done ⊢
        have hl1 := numM_len hmn
        have hl2 := numM_len hmx
        refine Join1.intro (fun v h' => v = str (if 0 ≤ mx then numM mx else [45]) ∧ Fm h1.size h1.size h1 h') ?_ ?_
        · rw [Tryz.fa36_3, addr_add, Nat.zero_add, pLoad_one (v := .int .i64 mx) Tryz.agg3 (by rw [hcell_of b1]; rfl), reads_ge, boolV_bool]
          refine bcase_of (fun hc => ?_) (fun hc => ?_)
          · have hmx0 := of_decide_eq_true hc
            rw [if_pos hmx0, Tryz.fa36_3, addr_add, Nat.zero_add, pLoad_one (v := .int .i64 mx) Tryz.agg3 (by rw [hcell_of b1]; rfl), int_cast hmx0]
            exact num_spec (intMax hmx0 hmx) fun h2 f2 => ⟨rfl, f2⟩
          · have hmx0 := of_decide_eq_false hc
            rw [if_neg hmx0]
            exact ⟨rfl, Fm.refl ..⟩
        rintro v h2 ⟨rfl, f2⟩
        have s2 := f2.size
        have q12 : Fq b h1 h2 := Fq.of f2 (Nat.le_refl _)
        have hll : (if 0 ≤ mx then numM mx else [45]).length ≤ 64 := by split; (exact hl2); (simp)
        rw [Tryz.fa36_2, addr_add, Nat.zero_add, pLoad_one (v := .int .i64 mn) Tryz.agg3 (by rw [hcell_of (keep q12)]; rfl), int_cast hmn0]
        refine num_spec (intMax hmn0 hmn) fun h3 f3 => ?_
        have s3 := f3.size
        rw [show baseM 10 mn.toNat = numM mn from rfl, reads_sadd (by simp; omega), reads_sadd (by simp; omega), reads_sadd (by simp; omega)]
        refine put ((f1.trans (Fm.lift f2 (by omega) (by omega))).trans (Fm.lift f3 (by omega) (by omega))) (q12.trans (Fq.of f3 (Nat.le_refl _))) ((sb1.fm f2).fm f3) hlh fun v h4 sb4 f4 q4 => done sb4 f4 q4
      have hk6 := of_decide_eq_false hk6
      rw [if_neg hk6] at hlh done ⊢
      rw [reads_eq, show (7 : Int) = ((7 : Nat) : Int) from rfl, dec_nn_eq, boolV_bool]
      refine bcase_of (fun hc => ?_) (fun hk7 => ?_)
      · have e := of_decide_eq_true hc
        rw [if_pos e] at hlh done ⊢
        have hl1 := baseM_len (base := 10) (by omega) 63 g (by omega)
        rw [Tryz.fa36_4, addr_add, Nat.zero_add, pLoad_one (v := .int .i64 g) Tryz.agg3 (by rw [hcell_of b1]; rfl)]
        refine num_spec hg fun h2 f2 => ?_
        have s2 := f2.size
        rw [reads_sadd (by simp; omega)]
        exact put (f1.trans (Fm.lift f2 (by omega) (by omega))) (Fq.of f2 (Nat.le_refl _)) (sb1.fm f2) hlh fun v h4 sb4 f4 q4 => done sb4 f4 q4
      have hk7 := of_decide_eq_false hk7
      rw [if_neg hk7] at hlh done ⊢
      rw [List.append_nil] at done ⊢
      exact done sb1 f1 (Fq.refl ..)
    · rintro h2 ⟨hk1, hk2, hk3, sb2, f2, q2⟩
      have s2 := f2.size
      have q2s := q2.size
      rw [if_neg hk1, if_neg hk2, if_neg hk3] at hk hlen
      have htl := textsM_len ts
      rw [List.length_append, List.length_append] at hlen
      rw [Tryz.fa36_5, addr_add, Nat.zero_add, pLoad_one (v := .slice q ts.length cc) Tryz.agg34 (by rw [hcell_of (keep q2)]; rfl), reads_rlen Tryz.underlying34]
      refine Loop1.fuel (fun k' a h' => ∃ i : Nat, i ≤ ts.length ∧ k' = ts.length - i ∧ a = .int .i64 i ∧ Fm n b h h' ∧ Fq b h1 h' ∧ SB h' n b (l ++ headM k mn mx g ++ textsM (ts.take i))) (n := ts.length)
        ⟨0, by omega, by simp, rfl, f2, q2, by simpa [textsM] using sb2⟩ fun k' a h3 hi => ?_
      obtain ⟨i, hi, rfl, rfl, f3, q3, sb3⟩ := hi
      have s3 := f3.size
      have q3s := q3.size
      rw [reads_lt, boolV_bool]
      refine bcase_of (fun hc => ?_) (fun hc => ?_)
      · have hlt : i < ts.length := by have := of_decide_eq_true hc; omega
        have hfull : textsM ts = textsM (ts.take i) ++ ((32 :: textM ts[i]) ++ textsM (ts.drop (i + 1))) := by
          conv => lhs; rw [← List.take_append_drop i ts, textsM_append, List.drop_eq_getElem_cons hlt]
          rfl
        have hnext : textsM (ts.take (i + 1)) = textsM (ts.take i) ++ (32 :: textM ts[i]) := by
          rw [List.take_add_one, List.getElem?_eq_getElem hlt, textsM_append]
          simp [textsM]
        have hlt2 := congrArg List.length hfull
        simp only [List.length_append, List.length_cons] at hlt2
        obtain ⟨bk, cur, rfl, hcur, hbk, hrow⟩ := hkids (by rintro rfl; simp at hlt)
        have hQk : Q bk := by
          simp only [IsRe] at ht
          obtain ⟨kv, h1', h2'⟩ := ht
          have : kv = .slice (some ⟨bk, 0, none⟩) ts.length cc := by
            simp only [reL, List.cons.injEq, and_true] at h1'
            exact h1'.2.2.2.2.2.2.2.2.symm
          subst this
          rcases h2' with ⟨e, _⟩ | ⟨b', cap', cur', hq', e', _⟩
          · subst e; simp at hlt
          · injection e' with e1 e2 e3
            injection e1 with e1
            injection e1 with e1
            subst e1
            exact hq'
        have old : ∀ {h' : Heap}, Fq b h1 h' → ∀ x, Q x → ∀ cur, h[x]? = some (.cells cur 36 (0, 0)) → h'[x]? = some (.cells cur 36 (0, 0)) := by
          intro h' q' x hx cur' e
          have hlt := at_lt e
          have e1 := (a1.old x hlt).trans e
          exact (q'.same x (by omega) (hQ x hx) (by rw [e1]; intro c e; cases e)).trans e1
        have hbk3 := old q3 bk hQk cur hbk
        rw [reads_idxRow Tryz.underlying34 Tryz.size36 hlt, addr_add, Nat.zero_add]
        refine load_row hbk3 Tryz.agg36 (by omega) ?_
        have htk : IsRe h Q ts[i] ((cur.toList.drop (i * 9)).take 9) := by
          have := hrow.get hlt
          rwa [take_drop9 hlt] at this
        refine alloc_rule Tryz.zero36 fun h4 a4 => ?_
        have s4 := a4.size
        refine storeFull a4.at_ (xs := ((cur.toList.drop (i * 9)).take 9).toArray) (by rw [Tryz.size36]; simp only [List.size_toArray, htk.len]) (by simp only [List.size_toArray, htk.len]; rfl) (by simpa using htk.flat) fun h5 hu5 => ?_
        have s5 := hu5.size
        have f35 : Fm h3.size h3.size h3 h5 := (Fm.al a4 (Nat.le_refl _)).trans (Fm.upd hu5 (.inl (Nat.le_refl _)))
        have q5 : Fq b h1 h5 := q3.trans (Fq.of f35 (Nat.le_refl _))
        have f5 : Fm n b h h5 := f3.trans (Fm.lift f35 (by omega) (by omega))
        refine wbyte_spec (c := 32) (sb3.fm f35) (by omega) (by simp only [List.length_append]; omega) fun h6 sb6 f6 q6 => ?_
        have s6 := f6.size
        have hb6 : h6[h3.size]? = some (.cells ((cur.toList.drop (i * 9)).take 9).toArray 36 (0, 0)) := (q6.same h3.size (by omega) (by have := at_lt (show h[bk]? = _ from hbk); omega) (by rw [hu5.same]; intro c e; cases e)).trans hu5.same
        refine load_all hb6 (by rw [Tryz.agg36]; simp only [List.size_toArray, htk.len]) ?_
        have q16 : Fq b h1 h6 := q5.trans q6
        have htk6 : IsRe h6 Q ts[i] ((cur.toList.drop (i * 9)).take 9) := htk.frameQ (old q16)
        have hsz : szT ts[i] ≤ szL ts := szL_get hlt
        refine ih (by simp only [szT] at hm; omega) (fitL_get hlt hts) htk6 hQ sb6 (by omega) (by simp only [List.length_append, List.length_cons, List.length_nil]; omega) fun h7 sb7 f7 q7 => ?_
        rw [reads_add, wrap_n1 _ (by omega)]
        refine ⟨ts.length - (i + 1), by omega, i + 1, by omega, rfl, rfl, (f5.trans f6).trans f7, q16.trans q7, ?_⟩
        rw [hnext]
        simpa using sb7
      · have hil : i = ts.length := by have := of_decide_eq_false hc; omega
        subst hil
        rw [List.take_length] at sb3
        refine wbyte_spec (c := 41) sb3 (by omega) (by simp only [List.length_append]; omega) fun h4 sb4 f4 q4 => ?_
        exact hk h4 (by simpa using sb4) (f3.trans f4) (q1.trans (q3.trans q4))
end Rt
end Go.Proofs
