/- A part of the proofs over this seat: Txt2. -/
import Derived.Test.YthlncmkeccgfeaaGreatDoorTxt
set_option linter.unusedVariables false
set_option linter.unusedSimpArgs false
set_option maxRecDepth 100000
namespace Go.Proofs
open Go.Vcg
namespace Rt
attribute [local congr] Reads.congr ReadsS.congr pLoad.congr pLoadS.congr pStore.congr Runs.congr CallsH.congr bcase.congr boolV.congr Stable.congr pAlloc.congr
variable {n b : Nat} {h : Heap} {l : List UInt8} {R : Value → Heap → Prop} {E : List PanicEntry → Heap → Prop}

theorem SB.fm {h' : Heap} (s : SB h n b l) (f : Fm h.size h.size h h') : SB h' n b l := by
  obtain ⟨h1, p, v, h2, h3, h4⟩ := s
  exact ⟨h1, p, v, h2, (f.same b (at_lt h3) (by have := at_lt h3; omega)).trans h3, h4.frame fun k _ hk => f.same k hk (by omega)⟩

def runEnd (s : W4) : Nat → Nat → Nat
  | 0, b => b
  | f + 1, b => if b < 255 then (if s.has (u8 (b + 1)) then runEnd s f (b + 1) else b) else b
def setPut (b e : Nat) (out : List UInt8) : List UInt8 := out ++ (if out = [] then [] else [44]) ++ hexM (u8 b) ++ (if b < e then 45 :: hexM (u8 e) else [])
def setGo (s : W4) : Nat → Nat → List UInt8 → List UInt8
  | 0, _, out => out
  | f + 1, b, out => if b < 256 then (if s.has (u8 b) then setGo s f (runEnd s 256 b + 1) (setPut b (runEnd s 256 b) out) else setGo s f (b + 1) out) else out
def setTextM (s : W4) : List UInt8 := if s = W4.zero then [91, 93] else 91 :: setGo s 257 0 [] ++ [93]

theorem setPut_len {b e : Nat} {out : List UInt8} : (setPut b e out).length ≤ out.length + 300 := by
  have h1 := hexM_len (u8 b)
  have h2 := hexM_len (u8 e)
  unfold setPut
  split <;> split <;> simp <;> omega
theorem setPut_ne {b e : Nat} {out : List UInt8} : setPut b e out ≠ [] := by
  intro hn
  have := congrArg List.length hn
  unfold setPut at this
  have hp : 1 ≤ (hexM (u8 b)).length := by unfold hexM; simp
  simp only [List.length_append, List.length_nil] at this
  omega
theorem runEnd_ge (s : W4) : ∀ (f b : Nat), b ≤ runEnd s f b
  | 0, b => Nat.le_refl _
  | f + 1, b => by
    unfold runEnd
    have := runEnd_ge s f (b + 1)
    split
    · split <;> omega
    · omega
theorem runEnd_le (s : W4) : ∀ (f b : Nat), b ≤ 255 → runEnd s f b ≤ 255
  | 0, b, h => h
  | f + 1, b, h => by
    unfold runEnd
    split
    · split
      · exact runEnd_le s f (b + 1) (by omega)
      · omega
    · omega
theorem setGo_ne (s : W4) : ∀ (f b : Nat) (out : List UInt8), out ≠ [] → setGo s f b out ≠ []
  | 0, _, _, h => h
  | f + 1, b, out, h => by
    unfold setGo
    split
    · split
      · exact setGo_ne s f _ _ setPut_ne
      · exact setGo_ne s f _ _ h
    · exact h
theorem setGo_some (s : W4) {c : Nat} (hc : c < 256) (hs : s.has (u8 c) = true) : ∀ (f b : Nat) (out : List UInt8), b ≤ c → 257 ≤ f + b → setGo s f b out ≠ []
  | 0, b, out, h, h' => by omega
  | f + 1, b, out, h, h' => by
    unfold setGo
    rw [if_pos (by omega)]
    split
    · exact setGo_ne s f _ _ setPut_ne
    · rename_i hb
      have : b ≠ c := by rintro rfl; exact hb hs
      exact setGo_some s hc hs f (b + 1) out (by omega) (by omega)
theorem W4.some_has {s : W4} (hs : s.ok) (h0 : s ≠ W4.zero) : ∃ c, c < 256 ∧ s.has (u8 c) = true := by
  have key : ∀ i, i < 4 → s.word i ≠ 0 → ∃ c, c < 256 ∧ s.has (u8 c) = true := by
    intro i hi hw
    obtain ⟨j, hj⟩ := Nat.exists_testBit_of_ne_zero hw
    have hj64 : j < 64 := by
      apply Nat.lt_of_not_le
      intro hle
      have : s.word i < 2 ^ j := Nat.lt_of_lt_of_le (W4.word_lt hs i) (Nat.pow_le_pow_right (by omega) hle)
      rw [Nat.testBit_lt_two_pow this] at hj
      cases hj
    refine ⟨i * 64 + j, by omega, ?_⟩
    unfold W4.has
    rw [u8_toNat (by omega), show (i * 64 + j) / 64 = i by omega, show (i * 64 + j) % 64 = j by omega]
    exact hj
  by_cases ha : s.a = 0
  · by_cases hb : s.b = 0
    · by_cases hc : s.c = 0
      · by_cases hd : s.d = 0
        · exact absurd (by cases s; simp_all [W4.zero]) h0
        · exact key 3 (by omega) hd
      · exact key 2 (by omega) hc
    · exact key 1 (by omega) hb
  · exact key 0 (by omega) ha

theorem setText_spec {s : W4} (hs : s.ok) (hk : ∀ h', Fm h.size h.size h h' → R (str (setTextM s)) h') : CallsH Tryz.prog 68 #[.agg s.vals.toArray] h R E := by
  refine C68 ?_
  unfold S68
  refine new_rule fun h1 a1 => ?_
  have s1 := a1.size
  refine load_all a1.at_ Tryz.agg33 ?_
  rw [Tryz.bd33]
  refine cast (congrArg (fun z => z) (reads_eqSet (s := s) (u := W4.zero) (c := false)).symm) ?_
  rw [boolV_bool]
  refine bcase_of (fun hc => ?_) (fun hc => ?_)
  · have e := of_decide_eq_true hc
    have := hk h1 (Fm.al a1 (Nat.le_refl _))
    rw [setTextM, if_pos e] at this
    exact this
  have hne : s ≠ W4.zero := of_decide_eq_false hc
  refine alloc_rule Tryz.zero87 fun h2 a2 => ?_
  have s2 := a2.size
  have fall : ∀ {h'}, Fm h2.size h1.size h2 h' → Fm h.size h.size h h' := fun f => ((Fm.al a1 (Nat.le_refl _)).trans (Fm.al a2 (by omega))).trans ⟨f.size, fun k hk _ => f.same k (by omega) (by omega)⟩
  have b1 : h2[h.size]? = some (.cells s.vals.toArray 33 (0, 0)) := (a2.old h.size (by omega)).trans a1.at_
  have hb2 : SB h2 h2.size h1.size [] := ⟨by omega, .pointer none, .slice none 0 0, .inl rfl, a2.at_, Owns.nil ..⟩
  have at1 : ∀ {h'}, Fm h2.size h1.size h2 h' → h'[h.size]? = some (.cells s.vals.toArray 33 (0, 0)) := fun f => (f.same h.size (by omega) (by omega)).trans b1
  refine Loop1.fuel (fun k a h' => ∃ (i : Nat) (out : List UInt8), a = .int .i64 i ∧ i ≤ 256 ∧ 257 ≤ k + i ∧ setGo s k i out = setGo s 257 0 [] ∧ out.length ≤ 300 * i ∧ Fm h2.size h1.size h2 h' ∧ SB h' h2.size h1.size out) (n := 257)
    ⟨0, [], rfl, by omega, by omega, rfl, by simp, Fm.refl .., hb2⟩ fun k a h3 hi => ?_
  obtain ⟨i, out, rfl, hi, hki, hgo, hol, f3, sb3⟩ := hi
  have s3 := f3.size
  rw [reads_lt, boolV_bool]
  refine bcase_of (fun hc => ?_) (fun hc => ?_)
  · have hlt : i < 256 := by have := of_decide_eq_true hc; omega
    obtain ⟨k, rfl⟩ : ∃ k', k = k' + 1 := ⟨k - 1, by omega⟩
    unfold setGo at hgo
    rw [if_pos hlt] at hgo
    refine load_all (at1 f3) Tryz.agg33 ?_
    rw [reads_conv_int Tryz.underlying3 Tryz.underlying5, wrap_u8 hlt]
    rw [val_u8 hlt]
    refine has_spec hs fun h4 f4 => ?_
    have s4 := f4.size
    have f24 : Fm h2.size h1.size h2 h4 := f3.trans (Fm.lift f4 (by omega) (by omega))
    have sb4 := sb3.fm f4
    rw [reads_not, boolV_bool]
    refine bcase_of (fun hh => ?_) (fun hh => ?_)
    · have hh : s.has (u8 i) = false := by simpa using hh
      rw [hh, if_neg (by simp)] at hgo
      rw [reads_add, wrap_n1 _ (by omega)]
      exact ⟨k, by omega, i + 1, out, rfl, by omega, by omega, hgo, by omega, f24, sb4⟩
    · have hh : s.has (u8 i) = true := by simpa using hh
      rw [hh, if_pos rfl] at hgo
      have hge := runEnd_ge s 256 i
      have hle := runEnd_le s 256 i (by omega)
      -- what is behind the end of the run
      have fin : ∀ {h5}, Fm h2.size h1.size h2 h5 → SB h5 h2.size h1.size out →
          Join0 (fun J8 => CallsH Tryz.prog 99 #[ptr h1.size] h5 (fun t30 h7 => Reads Tryz.prog (binS .gtr 3 true t30 (.int .i64 0)) h7 fun t31 => boolV t31 fun b9 => bcase b9 (CallsH Tryz.prog 70 #[ptr h1.size, (.int .u8 44)] h7 (fun t32 h8 => J8 h8) E) (J8 h7)) E)
          (fun h9 => Reads Tryz.prog (convert 3 5 (.int .i64 i)) h9 fun t34 => CallsH Tryz.prog 100 #[t34] h9 (fun t35 h10 => CallsH Tryz.prog 67 #[ptr h1.size, t35] h10 (fun t36 h11 =>
            Reads Tryz.prog (binS .gtr 3 false (.int .i64 (runEnd s 256 i)) (.int .i64 i)) h11 fun t39 => boolV t39 fun b10 => bcase b10 (
              Reads Tryz.prog (convert 3 5 (.int .i64 (runEnd s 256 i))) h11 fun t41 => CallsH Tryz.prog 100 #[t41] h11 (fun t42 h12 => Reads Tryz.prog (binS .add 9 true (str [45]) t42) h12 fun t43 => CallsH Tryz.prog 67 #[ptr h1.size, t43] h12 (fun t44 h13 =>
                Reads Tryz.prog (binS .add 3 true (.int .i64 (runEnd s 256 i)) (.int .i64 1)) h13 fun t12_2 => ∃ j, j < k + 1 ∧ ∃ (i : Nat) (out : List UInt8), t12_2 = .int .i64 i ∧ i ≤ 256 ∧ 257 ≤ j + i ∧ setGo s j i out = setGo s 257 0 [] ∧ out.length ≤ 300 * i ∧ Fm h2.size h1.size h2 h13 ∧ SB h13 h2.size h1.size out) E) E) (
              Reads Tryz.prog (binS .add 3 true (.int .i64 (runEnd s 256 i)) (.int .i64 1)) h11 fun t12_2 => ∃ j, j < k + 1 ∧ ∃ (i : Nat) (out : List UInt8), t12_2 = .int .i64 i ∧ i ≤ 256 ∧ 257 ≤ j + i ∧ setGo s j i out = setGo s 257 0 [] ∧ out.length ≤ 300 * i ∧ Fm h2.size h1.size h2 h11 ∧ SB h11 h2.size h1.size out)) E) E) := by
        intro h5 f5 sb5
        have s5 := f5.size
        refine Join0.intro (fun h' => Fm h2.size h1.size h2 h' ∧ SB h' h2.size h1.size (out ++ if out = [] then [] else [44])) ?_ ?_
        · refine blen_spec sb5 ?_
          rw [reads_gt, boolV_bool]
          refine bcase_of (fun hc => ?_) (fun hc => ?_)
          · have : out ≠ [] := by rintro rfl; simp at hc
            rw [if_neg this]
            exact wbyte_spec (c := 44) sb5 s5 (by omega) fun h8 sb8 f8 _ => ⟨f5.trans f8, sb8⟩
          · have : out = [] := by
              have := of_decide_eq_false hc
              exact List.length_eq_zero_iff.1 (by omega)
            rw [if_pos this, List.append_nil]
            exact ⟨f5, sb5⟩
        · rintro h9 ⟨f9, sb9⟩
          have s9 := f9.size
          have hx1 := hexM_len (u8 i)
          have hx2 := hexM_len (u8 (runEnd s 256 i))
          have hsl : (out ++ if out = [] then [] else [44]).length ≤ out.length + 1 := by split <;> simp
          rw [reads_conv_int Tryz.underlying3 Tryz.underlying5, wrap_u8 hlt]
          rw [val_u8 hlt]
          refine hex_spec fun h10 f10 => ?_
          have f29 : Fm h2.size h1.size h2 h10 := f9.trans (Fm.lift f10 (by omega) (by omega))
          have s10 := f10.size
          refine wstr_spec (sb9.fm f10) (by omega) (by omega) (by omega) fun h11 v sb11 f11 _ => ?_
          have f211 := f29.trans f11
          have s11 := f11.size
          rw [reads_gt, boolV_bool]
          refine bcase_of (fun hc => ?_) (fun hc => ?_)
          · have hlt2 : i < runEnd s 256 i := by have := of_decide_eq_true hc; omega
            rw [reads_conv_int Tryz.underlying3 Tryz.underlying5, wrap_u8 (by omega)]
            rw [val_u8 (show runEnd s 256 i < 256 by omega)]
            refine hex_spec fun h12 f12 => ?_
            have s12 := f12.size
            rw [reads_sadd (by simp; omega)]
            refine wstr_spec (sb11.fm f12) (by omega) (by simp at hsl ⊢; omega) (by simp; omega) fun h13 v sb13 f13 _ => ?_
            rw [reads_add, wrap_n1 _ (by omega)]
            have hp : (out ++ if out = [] then [] else [44]) ++ hexM (u8 i) ++ ([45] ++ hexM (u8 (runEnd s 256 i))) = setPut i (runEnd s 256 i) out := by
              unfold setPut; rw [if_pos hlt2]; rfl
            rw [hp] at sb13
            exact ⟨k, by omega, runEnd s 256 i + 1, _, rfl, by omega, by omega, hgo, by have := setPut_len (b := i) (e := runEnd s 256 i) (out := out); omega, (f211.trans (Fm.lift f12 (by omega) (by omega))).trans f13, sb13⟩
          · have hlt2 : ¬ i < runEnd s 256 i := by have := of_decide_eq_false hc; omega
            rw [reads_add, wrap_n1 _ (by omega)]
            have hp : (out ++ if out = [] then [] else [44]) ++ hexM (u8 i) = setPut i (runEnd s 256 i) out := by
              unfold setPut; rw [if_neg hlt2]; simp
            rw [hp] at sb11
            exact ⟨k, by omega, runEnd s 256 i + 1, _, rfl, by omega, by omega, hgo, by have := setPut_len (b := i) (e := runEnd s 256 i) (out := out); omega, f211, sb11⟩
      refine Loop1.fuel (fun q a h' => ∃ (e : Nat), a = .int .i64 e ∧ i ≤ e ∧ e ≤ 255 ∧ 255 ≤ q + e ∧ runEnd s q e = runEnd s 256 i ∧ Fm h2.size h1.size h2 h' ∧ SB h' h2.size h1.size out) (n := 256) ⟨i, rfl, Nat.le_refl _, by omega, by omega, rfl, f24, sb4⟩ fun q a h5 hq => ?_
      obtain ⟨e, rfl, hie, he, hqe, hrun, f5, sb5⟩ := hq
      have s5 := f5.size
      rw [reads_lt, boolV_bool]
      refine bcase_of (fun hc => ?_) (fun hc => ?_)
      · have hlt5 : e < 255 := by have := of_decide_eq_true hc; omega
        obtain ⟨q, rfl⟩ : ∃ q', q = q' + 1 := ⟨q - 1, by omega⟩
        unfold runEnd at hrun
        rw [if_pos hlt5] at hrun
        refine load_all (at1 f5) Tryz.agg33 ?_
        rw [reads_add, wrap_n1 _ (by omega), reads_conv_int Tryz.underlying3 Tryz.underlying5, wrap_u8 (by omega)]
        rw [val_u8 (show e + 1 < 256 by omega)]
        refine has_spec hs fun h6 f6 => ?_
        have s6 := f6.size
        have f26 : Fm h2.size h1.size h2 h6 := f5.trans (Fm.lift f6 (by omega) (by omega))
        rw [boolV_bool]
        refine bcase_of (fun hh => ?_) (fun hh => ?_)
        · rw [hh, if_pos rfl] at hrun
          rw [reads_add, wrap_n1 _ (by omega)]
          exact ⟨q, by omega, e + 1, rfl, by omega, by omega, by omega, hrun, f26, sb5.fm f6⟩
        · rw [hh] at hrun
          have hrun : e = runEnd s 256 i := by rw [if_neg (by simp)] at hrun; exact hrun
          rw [hrun]
          exact fin f26 (sb5.fm f6)
      · have hrun : e = runEnd s 256 i := by
          have h255 : ¬ e < 255 := by have := of_decide_eq_false hc; omega
          cases q with
          | zero => exact hrun
          | succ q => unfold runEnd at hrun; rw [if_neg h255] at hrun; exact hrun
        rw [hrun]
        exact fin f5 sb5
  · have hil : i = 256 := by have := of_decide_eq_false hc; omega
    subst hil
    have hout : out = setGo s 257 0 [] := by
      rw [← hgo]
      cases k with
      | zero => rfl
      | succ k => unfold setGo; rw [if_neg (by omega)]
    obtain ⟨c, hc256, hcs⟩ := W4.some_has hs hne
    have h0 : out ≠ [] := by rw [hout]; exact setGo_some s hc256 hcs 257 0 [] (by omega) (by omega)
    refine string_spec sb3 h0 (by omega) fun h4 s4 f4 => ?_
    rw [reads_sadd (by simp; omega), reads_sadd (by simp; omega)]
    have f24 : Fm h2.size h1.size h2 h4 := f3.trans ⟨by omega, fun k hk _ => f4 k hk⟩
    have := hk h4 (fall f24)
    rw [setTextM, if_neg hne, ← hout] at this
    exact this
end Rt
end Go.Proofs
