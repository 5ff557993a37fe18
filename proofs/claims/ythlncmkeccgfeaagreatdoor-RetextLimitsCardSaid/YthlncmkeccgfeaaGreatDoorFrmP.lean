/- A part of the proofs over this seat: FrmP. -/
import Derived.Test.YthlncmkeccgfeaaGreatDoorRefQ
import Derived.Test.YthlncmkeccgfeaaGreatDoorLaw6
import Derived.Shelf.LaysM
import Derived.Shelf.Strconv.Itoa3
import Derived.Test.YthlncmkeccgfeaaGreatDoorProg
import Derived.Test.YthlncmkeccgfeaaGreatDoorFrm2
import Derived.Lib.LaidTab
set_option linter.unusedVariables false
set_option linter.unusedSimpArgs false
set_option maxRecDepth 100000
namespace Go.Proofs
open Go.Vcg
namespace Rt
attribute [local congr] Reads.congr ReadsS.congr pLoad.congr pLoadS.congr pStore.congr Runs.congr CallsH.congr bcase.congr boolV.congr Stable.congr pAlloc.congr
variable {n : Nat} {h : Heap} {l : List UInt8} {R : Value → Heap → Prop} {E : List PanicEntry → Heap → Prop}

/-! ### A set, written by the reference -/
theorem bytesG_nil {s : W4} : ∀ (f f' b : Nat) {out : List UInt8}, f + b = 256 → 257 ≤ f' + b → bytesG s f b = [] → setGo s f' b out = out
  | 0, f', b, out, h1, h2, _ => by
    obtain ⟨k, rfl⟩ : ∃ k, f' = k + 1 := ⟨f' - 1, by omega⟩
    unfold setGo
    rw [if_neg (by omega)]
  | f + 1, f', b, out, h1, h2, h3 => by
    obtain ⟨k, rfl⟩ : ∃ k, f' = k + 1 := ⟨f' - 1, by omega⟩
    unfold bytesG at h3
    by_cases hh : s.has (u8 b) = true
    · rw [if_pos hh] at h3; cases h3
    · rw [if_neg hh] at h3
      unfold setGo
      rw [if_pos (by omega), if_neg hh]
      exact bytesG_nil f k (b + 1) (by omega) (by omega) h3
theorem bytesG_cons {s : W4} : ∀ (f f' b : Nat) {out : List UInt8} {x : UInt8} {rest : List UInt8}, f + b = 256 → 257 ≤ f' + b → bytesG s f b = x :: rest →
    ∃ c f2, x = u8 c ∧ b ≤ c ∧ c < 256 ∧ s.has (u8 c) = true ∧ rest = bytesG s (255 - c) (c + 1) ∧ 257 ≤ f2 + c ∧ setGo s f' b out = setGo s f2 c out
  | 0, f', b, out, x, rest, h1, h2, h3 => by unfold bytesG at h3; cases h3
  | f + 1, f', b, out, x, rest, h1, h2, h3 => by
    unfold bytesG at h3
    by_cases hh : s.has (u8 b) = true
    · rw [if_pos hh] at h3
      injection h3 with e1 e2
      exact ⟨b, f', e1.symm, Nat.le_refl _, by omega, hh, by rw [← e2, show 255 - b = f from by omega], h2, rfl⟩
    · rw [if_neg hh] at h3
      obtain ⟨k, rfl⟩ : ∃ k, f' = k + 1 := ⟨f' - 1, by omega⟩
      obtain ⟨c, f2, e1, e2, e3, e4, e5, e6, e7⟩ := bytesG_cons f k (b + 1) (out := out) (by omega) (by omega) h3
      refine ⟨c, f2, e1, by omega, e3, e4, e5, e6, ?_⟩
      rw [← e7]
      conv => lhs; unfold setGo
      rw [if_pos (by omega), if_neg hh]
theorem bytesG_zero : ∀ (f b : Nat), bytesG W4.zero f b = []
  | 0, _ => rfl
  | f + 1, b => by
    unfold bytesG
    have : W4.zero.has (u8 b) = false := by
      unfold W4.has
      have : W4.zero.word ((u8 b).toNat / 64) = 0 := by
        unfold W4.word W4.zero
        split <;> rfl
      rw [this]
      simp
    rw [this, if_neg (by simp)]
    exact bytesG_zero f (b + 1)
theorem runEnd_stop {s : W4} {c : Nat} (h : c = 255 ∨ s.has (u8 (c + 1)) = false) : ∀ q, runEnd s q c = c
  | 0 => rfl
  | q + 1 => by
    unfold runEnd
    rcases h with h | h
    · rw [if_neg (by omega)]
    · rw [h]
      split <;> simp
theorem u8_inj {a b : Nat} (ha : a < 256) (hb : b < 256) (h : u8 a = u8 b) : a = b := by
  have := congrArg UInt8.toNat h
  rwa [u8_toNat ha, u8_toNat hb] at this
def tail47 (t4 t5 t6 t8 : Value) (C1 : Value → Value → Heap → Prop) (E : List PanicEntry → Heap → Prop) (h4 : Heap) : Prop :=
  Join1 (fun J6 =>
      Reads Tryz.prog (binS .gtr 3 true t5 (.int .i64 0)) h4 fun t37 =>
      boolV t37 fun b7 => bcase b7 (
        Reads Tryz.prog (binS .add 9 true t4 (str [44])) h4 fun t39 =>
        J6 t39 h4) (
        J6 t4 h4))
    (fun t4_2 h5 =>
    Reads Tryz.prog (binS .add 3 true t5 (.int .i64 1)) h5 fun t44 =>
    Reads Tryz.prog (Instr.sliceAt 29 t8 (some t5) (some t44) none) h5 fun t45 =>
    Reads Tryz.prog (convert 29 9 t45) h5 fun t46 =>
    CallsH Tryz.prog 72 #[t46] h5 (fun t47 h6 =>
    Reads Tryz.prog (binS .add 9 false t4_2 t47) h6 fun t48 =>
    Reads Tryz.prog (binS .gtr 3 false t6 t5) h6 fun t51 =>
    boolV t51 fun b8 => bcase b8 (
      Reads Tryz.prog (binS .add 3 true t6 (.int .i64 1)) h6 fun t56 =>
      Reads Tryz.prog (Instr.sliceAt 29 t8 (some t6) (some t56) none) h6 fun t57 =>
      Reads Tryz.prog (convert 29 9 t57) h6 fun t58 =>
      CallsH Tryz.prog 72 #[t58] h6 (fun t59 h7 =>
      Reads Tryz.prog (binS .add 9 true (str [45]) t59) h7 fun t60 =>
      Reads Tryz.prog (binS .add 9 false t48 t60) h7 fun t61 =>
      Reads Tryz.prog (binS .add 3 true t6 (.int .i64 1)) h7 fun t14 =>
    C1 t61 t14 h7) E) (
      Reads Tryz.prog (binS .add 3 true t6 (.int .i64 1)) h6 fun t14_2 =>
    C1 t48 t14_2 h6)) E)
theorem rsetText_spec {s : W4} (hs : s.ok) (hk : ∀ h', Fm h.size h.size h h' → R (str (setTextM s)) h') : CallsH Tryz.prog 47 #[.agg s.vals.toArray] h R E := by
  refine C47 ?_
  unfold S47
  refine new_rule fun h1 a1 => ?_
  have s1 := a1.size
  refine getSet a1.at_ (rbytes_spec hs fun h2 v f2 r2 => ?_)
  have s2 := f2.size
  have f12 : Fm h.size h.size h h2 := (Fm.al a1 (Nat.le_refl _)).trans (Fm.lift f2 (by omega) (by omega))
  have hbl := bytesG_len s 256 0
  have hz : s = W4.zero → setGo s 257 0 [] = [] := fun e => bytesG_nil 256 257 0 (by omega) (by omega) (by rw [e]; exact bytesG_zero _ _)
  have hfin : str (91 :: setGo s 257 0 [] ++ [93]) = str (setTextM s) := by
    unfold setTextM
    by_cases e : s = W4.zero
    · rw [if_pos e, hz e]; rfl
    · rw [if_neg e]
  obtain ⟨G, hG⟩ : ∃ G, setGo s 257 0 [] = G := ⟨_, rfl⟩
  rw [hG] at hfin
  obtain ⟨bl, hbl0⟩ : ∃ bl, bytesG s 256 0 = bl := ⟨_, rfl⟩
  rw [hbl0] at r2 hbl
  refine Loop2.fuel (fun k a c h' => ∃ (i b f' : Nat) (out : List UInt8), a = .string ⟨(91 :: out).toArray⟩ ∧ c = .int .i64 i ∧ k = bl.length - i ∧ b ≤ 256 ∧ bl.drop i = bytesG s (256 - b) b ∧ 257 ≤ f' + b ∧ setGo s f' b out = G ∧ (i = 0 ↔ out = []) ∧ out.length ≤ 300 * b ∧ Fm h2.size h2.size h2 h')
    (n := bl.length) ⟨0, 0, 257, [], rfl, rfl, by omega, by omega, by rw [List.drop_zero, hbl0], by omega, hG, by simp, by simp, Fm.refl ..⟩ fun k a c h3 hi => ?_
  obtain ⟨i, b, f', out, rfl, rfl, rfl, hb, hd, hf', hgo, hi0, hol, f3⟩ := hi
  have s3 := f3.size
  have by_ : ∀ {h'}, Fm h2.size h2.size h2 h' → IsBytes h' v bl := fun f => (r2.frame fun k k1 k2 => f.same k k2 (by omega)).is
  rw [reads_blen (by_ f3) Tryz.underlying29, reads_lt, dec_nn_lt, boolV_bool]
  refine bcase_of (fun hc => ?_) (fun hc => ?_)
  rotate_left
  · have hc := of_decide_eq_false hc
    have e : bl.drop i = [] := List.drop_eq_nil_of_le (by omega)
    rw [e] at hd
    have := bytesG_nil (256 - b) f' b (out := out) (by omega) hf' hd.symm
    rw [this] at hgo
    subst hgo
    refine cast (congrArg (fun z => z) (reads_sadd (a := 91 :: out) (b := [93]) (by simp; omega)).symm) ?_
    rw [show (91 :: out ++ [93] : List UInt8) = 91 :: out ++ [93] from rfl, hfin]
    exact hk h3 (f12.trans (Fm.lift f3 (by omega) (by omega)))
  have hlt : i < bl.length := of_decide_eq_true hc
  have hcons : bl.drop i = bl[i] :: bl.drop (i + 1) := List.drop_eq_getElem_cons hlt
  rw [hcons] at hd
  obtain ⟨c, f2', e1, e2, e3, e4, e5, e6, e7⟩ := bytesG_cons (256 - b) f' b (out := out) (by omega) hf' hd.symm
  rw [e7] at hgo
  obtain ⟨k, rfl⟩ : ∃ j, f2' = j + 1 := ⟨f2' - 1, by omega⟩
  unfold setGo at hgo
  rw [if_pos e3, if_pos e4] at hgo
  obtain ⟨e, he⟩ : ∃ e, runEnd s 256 c = e := ⟨_, rfl⟩
  rw [he] at hgo
  have hge := runEnd_ge s 256 c
  have hle := runEnd_le s 256 c (by omega)
  rw [he] at hge hle
  -- the end of a run
  have tl : ∀ {j : Nat} (hj : j < bl.length), j = i + (e - c) → bl[j] = u8 e → bl.drop (j + 1) = bytesG s (255 - e) (e + 1) → tail47 (.string ⟨(91 :: out).toArray⟩) (.int .i64 i) (.int .i64 j) v (fun a c h' => ∃ j, j < bl.length - i ∧ ∃ (i b f' : Nat) (out : List UInt8), a = .string ⟨(91 :: out).toArray⟩ ∧ c = .int .i64 i ∧ j = bl.length - i ∧ b ≤ 256 ∧ bl.drop i = bytesG s (256 - b) b ∧ 257 ≤ f' + b ∧ setGo s f' b out = G ∧ (i = 0 ↔ out = []) ∧ out.length ≤ 300 * b ∧ Fm h2.size h2.size h2 h') E h3 := by
    intro j hj hji hbj hdj
    unfold tail47
    refine Join1.intro (fun a h' => h' = h3 ∧ a = str (91 :: out ++ if out = [] then [] else [44])) ?_ ?_
    · rw [reads_gt, boolV_bool]
      refine bcase_of (fun hp => ?_) (fun hp => ?_)
      · have : out ≠ [] := fun z => by have := hi0.2 z; have := of_decide_eq_true hp; omega
        refine cast (congrArg (fun z => z) (reads_sadd (a := 91 :: out) (b := [44]) (by simp; omega)).symm) ?_
        rw [if_neg this]
        exact ⟨rfl, rfl⟩
      · have : out = [] := hi0.1 (by have := of_decide_eq_false hp; omega)
        rw [if_pos this, List.append_nil]
        exact ⟨rfl, rfl⟩
    rintro a h5 ⟨rfl, rfl⟩
    have hsl : (91 :: out ++ if out = [] then [] else [44]).length ≤ out.length + 2 := by split <;> simp
    have hx1 : (hexM (u8 c)).length = 2 := rfl
    have hx2 : (hexM (u8 e)).length = 2 := rfl
    rw [reads_add, wrap_n1 _ (by omega)]
    refine reads_bslice (by_ f3) Tryz.underlying29 Tryz.size5 (by omega) (by omega) fun u hu => ?_
    rw [reads_bstring hu Tryz.underlying29 Tryz.underlying5 Tryz.underlying9]
    have es : ∀ {j : Nat} (hj : j < bl.length), (bl.take (j + 1)).drop j = [bl[j]] := by
      intro j hj
      rw [List.drop_take, List.drop_eq_getElem_cons hj, show j + 1 - j = 1 from by omega]
      rfl
    rw [es hlt, e1]
    refine rhex_spec fun h6 f6 => ?_
    have s6 := f6.size
    have f26 := f3.trans (Fm.lift (n := h2.size) (r := h2.size) f6 (by omega) (by omega))
    rw [reads_sadd (by omega), reads_gt, boolV_bool]
    refine bcase_of (fun hp => ?_) (fun hp => ?_)
    · have hce : c < e := by have := of_decide_eq_true hp; omega
      rw [reads_add, wrap_n1 _ (by omega)]
      refine reads_bslice (by_ f26) Tryz.underlying29 Tryz.size5 (by omega) (by omega) fun u hu => ?_
      rw [reads_bstring hu Tryz.underlying29 Tryz.underlying5 Tryz.underlying9, es hj, hbj]
      refine rhex_spec fun h7 f7 => ?_
      have s7 := f7.size
      rw [reads_sadd (by simp [hx2]), reads_sadd (by simp at hsl ⊢; omega), reads_add, wrap_n1 _ (by omega)]
      have hp2 : 91 :: out ++ (if out = [] then [] else [44]) ++ hexM (u8 c) ++ ([45] ++ hexM (u8 e)) = 91 :: setPut c e out := by
        unfold setPut; rw [if_pos hce]; simp
      rw [hp2]
      refine ⟨bl.length - (j + 1), by omega, j + 1, e + 1, k, setPut c e out, rfl, rfl, rfl, by omega, by rw [hdj, show 256 - (e + 1) = 255 - e from by omega], by omega, hgo, ⟨fun z => by omega, fun z => absurd z setPut_ne⟩, by have := setPut_len (b := c) (e := e) (out := out); omega, f26.trans (Fm.lift f7 (by omega) (by omega))⟩
    · have hce : ¬ c < e := by have := of_decide_eq_false hp; omega
      rw [reads_add, wrap_n1 _ (by omega)]
      have hp2 : 91 :: out ++ (if out = [] then [] else [44]) ++ hexM (u8 c) = 91 :: setPut c e out := by
        unfold setPut; rw [if_neg hce]; simp
      rw [hp2]
      exact ⟨bl.length - (j + 1), by omega, j + 1, e + 1, k, setPut c e out, rfl, rfl, rfl, by omega, by rw [hdj, show 256 - (e + 1) = 255 - e from by omega], by omega, hgo, ⟨fun z => by omega, fun z => absurd z setPut_ne⟩, by have := setPut_len (b := c) (e := e) (out := out); omega, f26⟩
  refine Loop1.fuel (fun q a h' => h' = h3 ∧ ∃ (j d : Nat) (hj : j < bl.length), a = .int .i64 j ∧ c ≤ d ∧ d ≤ 255 ∧ j = i + (d - c) ∧ bl[j] = u8 d ∧ bl.drop (j + 1) = bytesG s (255 - d) (d + 1) ∧ 255 ≤ q + d ∧ runEnd s q d = e) (n := 256)
    ⟨rfl, i, c, hlt, rfl, Nat.le_refl _, by omega, by omega, e1, e5, by omega, he⟩ fun q a h4 hq => ?_
  obtain ⟨rfl, j, d, hj, rfl, hcd, hd255, hji, hbj, hdj, hqd, hrun⟩ := hq
  rw [reads_add, wrap_n1 _ (by omega), reads_blen (by_ f3) Tryz.underlying29, reads_lt, dec_nn_lt, boolV_bool]
  have stop : (d = 255 ∨ s.has (u8 (d + 1)) = false) → d = e := fun h => by rw [runEnd_stop h] at hrun; exact hrun
  refine bcase_of (fun hl => ?_) (fun hl => ?_)
  · have hl : j + 1 < bl.length := of_decide_eq_true hl
    have hd1 : d < 255 := by
      apply Nat.lt_of_not_le
      intro hge
      have : d = 255 := by omega
      subst this
      have : bl.drop (j + 1) = [] := by rw [hdj]; rfl
      have := List.drop_eq_nil_iff.1 this
      omega
    rw [reads_add, wrap_n1 _ (by omega)]
    refine idx_load (by_ f3) Tryz.underlying29 Tryz.size5 Tryz.agg5 hl ?_
    refine idx_load (by_ f3) Tryz.underlying29 Tryz.size5 Tryz.agg5 hj ?_
    have hn : bl.drop (j + 1) = bl[j + 1] :: bl.drop (j + 1 + 1) := List.drop_eq_getElem_cons hl
    rw [hn] at hdj
    rw [hbj, u8_toNat (by omega), reads_add, show ((d : Int) + 1) = ((d + 1 : Nat) : Int) from by omega, wrap_u8 (by omega), reads_eq, boolV_bool]
    rw [show 255 - d = (254 - d) + 1 from by omega] at hdj
    unfold bytesG at hdj
    by_cases hh : s.has (u8 (d + 1)) = true
    · rw [if_pos hh] at hdj
      injection hdj with g1 g2
      have : ((bl[j + 1].toNat : Int)) = ((d + 1 : Nat) : Int) := by rw [g1, u8_toNat (by omega)]
      refine bcase_of (fun _ => ?_) (fun hx => by have := of_decide_eq_false hx; omega)
      rw [reads_add, wrap_n1 _ (by omega)]
      obtain ⟨q, rfl⟩ : ∃ z, q = z + 1 := ⟨q - 1, by omega⟩
      unfold runEnd at hrun
      rw [if_pos hd1, if_pos hh] at hrun
      exact ⟨q, by omega, rfl, j + 1, d + 1, hl, rfl, by omega, by omega, by omega, g1, by rw [g2, show 255 - (d + 1) = 254 - d from by omega], by omega, hrun⟩
    · rw [if_neg hh] at hdj
      have hde := stop (.inr (by simpa using hh))
      refine bcase_of (fun hx => ?_) (fun _ => ?_)
      · exfalso
        have hx := of_decide_eq_true hx
        obtain ⟨c2, _, g1, g2, g3, _⟩ := bytesG_cons (254 - d) 257 (d + 1 + 1) (out := []) (by omega) (by omega) hdj.symm
        rw [g1, u8_toNat g3] at hx
        omega
      · subst hde
        refine tl hj hji hbj ?_
        rw [hn, hdj, show 255 - d = (254 - d) + 1 from by omega]
        conv => rhs; unfold bytesG
        rw [if_neg hh]
  · have hl := of_decide_eq_false hl
    have hnil : bl.drop (j + 1) = [] := List.drop_eq_nil_of_le (by omega)
    rw [hnil] at hdj
    have hde : d = e := by
      apply stop
      rcases Nat.lt_or_ge d 255 with hd1 | hd1
      · refine .inr ?_
        rw [show 255 - d = (254 - d) + 1 from by omega] at hdj
        unfold bytesG at hdj
        cases hh : s.has (u8 (d + 1)) with
        | false => rfl
        | true => rw [hh, if_pos rfl] at hdj; cases hdj
      · exact .inl (by omega)
    subst hde
    exact tl hj hji hbj (by rw [hnil, ← hdj])
end Rt
end Go.Proofs

set_option maxRecDepth 100000
namespace Go.Proofs
open Go.Vcg
namespace Rt
variable {l : List UInt8} {p gr : Nat}

/-! ### The kinds of what is read -/
mutual
def kT : T → Prop
  | .node k _ _ _ _ ts => 1 ≤ k ∧ k ≤ 7 ∧ kL ts
def kL : List T → Prop
  | [] => True
  | t :: ts => kT t ∧ kL ts
end
theorem kL_append : ∀ {a b : List T}, kL a → kL b → kL (a ++ b)
  | [], b, _, h => h
  | t :: a, b, h1, h2 => by
    simp only [List.cons_append, kL] at h1 ⊢
    exact ⟨h1.1, kL_append h1.2 h2⟩
theorem kL_one {t : T} (h : kT t) : kL [t] := by simp only [kL]; exact ⟨h, trivial⟩
theorem kL_get : ∀ {a : List T} {i : Nat} (hi : i < a.length), kL a → kT a[i]
  | t :: a, 0, _, h => by simp only [kL] at h; exact h.1
  | t :: a, i + 1, hi, h => by simp only [kL] at h; exact kL_get (a := a) (by simpa using hi) h.2
theorem kT_leaf {k g : Nat} {s : W4} {mn mx : Int} (h : 1 ≤ k ∧ k ≤ 7) : kT (.node k s mn mx g []) := by simp only [kT, kL]; exact ⟨h.1, h.2, trivial⟩
theorem kT_up {k g : Nat} {s : W4} {mn mx : Int} {t : T} (h : 1 ≤ k ∧ k ≤ 7) (ht : kT t) : kT (.node k s mn mx g [t]) := by simp only [kT]; exact ⟨h.1, h.2, kL_one ht⟩
theorem kT_join {k : Nat} {ts : List T} (h : 1 ≤ k ∧ k ≤ 7) (ht : kL ts) : kT (joinM k ts) := by
  unfold joinM
  split
  · simp only [kL] at ht; exact ht.1
  · simp only [kT]; exact ⟨h.1, h.2, ht⟩
def kR (m : Res (T × Nat × Nat)) : Prop := match m with | .ok x => kT x.1 | _ => True
def kR1 (m : Res (T × Nat)) : Prop := match m with | .ok x => kT x.1 | _ => True
theorem kR_ok {t : T} {q g : Nat} (h : kT t) : kR (.ok (t, q, g)) := h
theorem kR1_ok {t : T} {q : Nat} (h : kT t) : kR1 (.ok (t, q)) := h
theorem kR1.with {m : Res (T × Nat)} (h : kR1 m) : kR (m.with gr) := by
  cases m with
  | out => trivial
  | bad a b => trivial
  | ok x => obtain ⟨t, q⟩ := x; exact h
theorem kR_int {t : T} {frm : Nat} {shut : List UInt8} (ht : kT t) : kR1 (intM l t frm shut p) := by
  unfold intM
  split
  · trivial
  · split
    · trivial
    · exact kR1_ok (kT_up (by omega) ht)
theorem kR_timesL : ∀ (k : Nat) {t : T} {p : Nat}, kT t → kR1 (timesLM k l t p)
  | 0, t, p, _ => by unfold timesLM; trivial
  | k + 1, t, p, h => by
    unfold timesLM
    have hi : kR1 (intM l t p [125] (p + 1)) := kR_int h
    split
    · exact kR_timesL k (kT_up (by omega) h)
    split
    · exact kR_timesL k (kT_up (by omega) h)
    split
    · exact kR_timesL k (kT_up (by omega) h)
    split
    · cases hm : intM l t p [125] (p + 1) with
      | out => trivial
      | bad a b => trivial
      | ok x => rw [hm] at hi; exact kR_timesL k hi
    · exact kR1_ok h
theorem kR_timesB : ∀ (k : Nat) {t : T} {p : Nat}, kT t → kR1 (timesBM k l t p)
  | 0, t, p, _ => by unfold timesBM; trivial
  | k + 1, t, p, h => by
    unfold timesBM
    have hi : kR1 (intM l t p [92, 125] (p + 2)) := kR_int h
    split
    · exact kR_timesB k (kT_up (by omega) h)
    split
    · cases hm : intM l t p [92, 125] (p + 2) with
      | out => trivial
      | bad a b => trivial
      | ok x => rw [hm] at hi; exact kR_timesB k hi
    · exact kR1_ok h
theorem kR_esc {signs : List UInt8} : kR1 (escM l signs p) := by
  unfold escM
  split
  · trivial
  · split
    · exact kR1_ok (kT_leaf (by omega))
    · split
      · exact kR1_ok (kT_leaf (by omega))
      · trivial
theorem kR_brk {ext : Bool} : kR1 (brkM ext l p) := by
  unfold brkM
  split
  · exact kR1_ok (kT_leaf (by omega))
  · trivial
  · trivial
theorem kR_group {start : Nat} {shut : List UInt8} {m : Res (T × Nat × Nat)} (h : kR m) : kR (groupM l start shut gr m) := by
  unfold groupM
  split
  · trivial
  · cases m with
    | out => trivial
    | bad a b => trivial
    | ok x =>
      obtain ⟨t, q, g⟩ := x
      simp only
      split
      · exact kR_ok (kT_up (by omega) h)
      · trivial
theorem kR_then {k : Nat} {m : Res (T × Nat × Nat)} (h : kR m) : kR (thenTimes k l m) := by
  unfold thenTimes
  cases m with
  | out => trivial
  | bad a b => trivial
  | ok x =>
    obtain ⟨t, q, g⟩ := x
    exact (kR_timesL k (t := t) h).with
theorem kR_ext : ∀ (k : Nat), (∀ {p op gr : Nat}, kR (itemM k l p op gr)) ∧ (∀ {ts : List T} {p op gr : Nat}, kL ts → kR (branchL k l ts p op gr)) ∧ (∀ {ts : List T} {p op gr : Nat}, kL ts → kR (altL k l ts p op gr)) ∧ (∀ {p op gr : Nat}, kR (branchesM k l p op gr))
  | 0 => by
    refine ⟨?_, ?_, ?_, ?_⟩
    · intros; unfold itemM; trivial
    · intros; unfold branchL; trivial
    · intros; unfold altL; trivial
    · intros; unfold branchesM; trivial
  | k + 1 => by
    obtain ⟨iI, iL, iA, iB⟩ := kR_ext k
    refine ⟨?_, ?_, ?_, ?_⟩
    · intro p op gr
      unfold itemM
      have anc : ∀ {kd q : Nat}, 1 ≤ kd ∧ kd ≤ 7 → kR1 (anchorM l kd q) := by
        intro kd q h
        unfold anchorM
        split
        · trivial
        · exact kR1_ok (kT_leaf h)
      split
      · trivial
      split
      · exact (anc (by omega)).with
      split
      · exact (anc (by omega)).with
      split
      · exact kR_then (kR_group iB)
      split
      · exact kR_then kR_esc.with
      split
      · exact kR_then (kR_ok (kT_leaf (by omega)))
      split
      · exact kR_then kR_brk.with
      · split
        · exact kR_then (kR_ok (kT_leaf (by omega)))
        · trivial
    · intro ts p op gr h
      unfold branchL
      split
      · split
        · split <;> trivial
        · exact kR_ok (kT_join (by omega) h)
      · have hI := iI (p := p) (op := op) (gr := gr)
        cases hm : itemM k l p op gr with
        | out => trivial
        | bad a b => trivial
        | ok x =>
          rw [hm] at hI
          obtain ⟨t, q, g⟩ := x
          exact iL (kL_append h (kL_one hI))
    · intro ts p op gr h
      unfold altL
      split
      · have hI := iL (ts := []) (p := p + 1) (op := op) (gr := gr) trivial
        cases hm : branchL k l [] (p + 1) op gr with
        | out => trivial
        | bad a b => trivial
        | ok x =>
          rw [hm] at hI
          obtain ⟨t, q, g⟩ := x
          exact iA (kL_append h (kL_one hI))
      · exact kR_ok (kT_join (by omega) h)
    · intro p op gr
      unfold branchesM
      have hI := iL (ts := []) (p := p) (op := op) (gr := gr) trivial
      cases hm : branchL k l [] p op gr with
      | out => trivial
      | bad a b => trivial
      | ok x =>
        rw [hm] at hI
        obtain ⟨t, q, g⟩ := x
        exact iA (kL_one hI)
theorem kR_bas : ∀ (k : Nat), (∀ {p op gr : Nat}, kR (atomM k l p op gr)) ∧ (∀ {ts : List T} {p op gr : Nat}, kL ts → kR (basL k l ts p op gr)) ∧ (∀ {p op gr : Nat}, kR (basicM k l p op gr))
  | 0 => by
    refine ⟨?_, ?_, ?_⟩
    · intros; unfold atomM; trivial
    · intros; unfold basL; trivial
    · intros; unfold basicM; trivial
  | k + 1 => by
    obtain ⟨iA, iL, iB⟩ := kR_bas k
    have fin : ∀ {ts : List T} {p gr : Nat}, kL ts → kR (finB l ts p gr) := by
      intro ts p gr h
      unfold finB
      split
      · trivial
      · exact kR_ok (kT_join (by omega) h)
    refine ⟨?_, ?_, ?_⟩
    · intro p op gr
      unfold atomM
      split
      · exact kR_group iB
      split
      · trivial
      split
      · exact kR_esc.with
      split
      · exact kR_ok (kT_leaf (by omega))
      split
      · exact kR_brk.with
      · split
        · exact kR_ok (kT_leaf (by omega))
        · trivial
    · intro ts p op gr h
      unfold basL
      split
      · exact fin h
      split
      · exact fin (kL_append h (kL_one (kT_leaf (by omega))))
      · have hI := iA (p := p) (op := op) (gr := gr)
        cases hm : atomM k l p op gr with
        | out => trivial
        | bad a b => trivial
        | ok x =>
          rw [hm] at hI
          obtain ⟨t, q, g⟩ := x
          have hT := kR_timesB (l := l) k (t := t) (p := q) hI
          simp only
          cases hm2 : timesBM k l t q with
          | out => trivial
          | bad a b => trivial
          | ok y =>
            rw [hm2] at hT
            exact iL (kL_append h (kL_one hT))
    · intro p op gr
      unfold basicM
      split
      · exact iL (kL_one (kT_leaf (by omega)))
      · exact iL trivial
theorem whole_kind {k : Nat} {ext : Bool} {t : T} {q g : Nat} (h : wholeM k l ext = .ok (t, q, g)) : kT t := by
  unfold wholeM at h
  have hk : kR (if ext then branchesM k l 0 0 0 else basicM k l 0 0 0) := by
    split
    · exact (kR_ext k).2.2.2
    · exact (kR_bas k).2.2
  cases hm : (if ext then branchesM k l 0 0 0 else basicM k l 0 0 0) with
  | out => rw [hm] at h; cases h
  | bad a b => rw [hm] at h; cases h
  | ok x =>
    rw [hm] at h hk
    obtain ⟨t', q', g'⟩ := x
    simp only at h
    split at h
    · cases h; exact hk
    · cases h

/-! ### How long a tree is, written -/
theorem setPut_short {b e : Nat} {out : List UInt8} (hbe : b ≤ e) : (setPut b e out).length ≤ out.length + 3 * (e + 1 - b) := by
  have h1 : (hexM (u8 b)).length = 2 := rfl
  have h2 : (hexM (u8 e)).length = 2 := rfl
  unfold setPut
  split <;> split <;> simp [h1, h2] <;> omega
theorem setGo_short (s : W4) : ∀ (f b : Nat) (out : List UInt8), b ≤ 256 → (setGo s f b out).length ≤ out.length + 3 * (256 - b)
  | 0, _, out, _ => by unfold setGo; omega
  | f + 1, b, out, hb => by
    unfold setGo
    split
    · rename_i hlt
      split
      · have h1 := runEnd_ge s 256 b
        have h2 := runEnd_le s 256 b (by omega)
        have h3 := setGo_short s f (runEnd s 256 b + 1) (setPut b (runEnd s 256 b) out) (by omega)
        have h4 := setPut_short (out := out) h1
        omega
      · have := setGo_short s f (b + 1) out (by omega)
        omega
    · omega
theorem setTextM_short (s : W4) : (setTextM s).length ≤ 770 := by
  unfold setTextM
  split
  · simp
  · have := setGo_short s 257 0 [] (by omega)
    simp at this ⊢
    omega
mutual
theorem textM_short : ∀ {t : T}, fitT t → (textM t).length + 1 ≤ 1000 * szT t
  | .node k s mn mx g ts, h => by
    simp only [fitT] at h
    have h1 := textsM_short h.2.2.2.2.2
    have h2 := setTextM_short s
    have h3 := numM_len (x := mn) h.2.2.1
    have h4 := numM_len (x := mx) h.2.2.2.1
    have h5 := baseM_len (base := 10) (by omega) 63 g (by have := h.2.2.2.2.1; omega)
    have hh : (headM k mn mx g).length ≤ 140 := by
      unfold headM
      split
      · simp
      split
      · simp
      split
      · split <;> simp <;> omega
      split
      · simp; omega
      · simp
    unfold textM
    simp only [szT]
    split
    · split
      · simp; omega
      · omega
    split
    · simp; omega
    split
    · simp; omega
    · simp only [List.length_append, List.length_cons, List.length_nil]
      omega
theorem textsM_short : ∀ {ts : List T}, fitL ts → (textsM ts).length ≤ 1000 * szL ts
  | [], _ => by simp [textsM]
  | t :: ts, h => by
    simp only [fitL] at h
    have h1 := textM_short h.1
    have h2 := textsM_short h.2
    simp only [textsM, szL, List.length_append, List.length_cons]
    omega
end
end Rt
end Go.Proofs

set_option maxRecDepth 100000
namespace Go.Proofs
open Go.Shelf
def Tryz.laysM171_ren : Go.Shelf.Ren := ⟨fun | 171 => 48 | 243 => 73 | 246 => 103 | 283 => 113 | 284 => 114 | 285 => 115 | 286 => 116 | 129 => 124 | 317 => 123 | 318 => 125 | 319 => 126 | 320 => 127 | 337 => 133 | 338 => 134 | n => n, fun | 3 => 3 | 9 => 9 | 2 => 2 | 4 => 4 | 171 => 157 | 0 => 0 | 53 => 31 | 37 => 29 | 5 => 5 | 173 => 160 | 212 => 170 | 51 => 171 | 20 => 20 | 213 => 172 | 46 => 144 | 232 => 192 | 233 => 156 | n => n, fun | 17 => 23 | 18 => 24 | 19 => 25 | n => n⟩
theorem Tryz.laysM171 : Go.Proofs.LaysM.n171 Tryz.prog Tryz.laysM171_ren := {
  mixed := by kernel_rfl
  f129 := Tryz.func124.trans (congrArg some (by kernel_rfl))
  f171 := Tryz.func48.trans (congrArg some (by kernel_rfl))
  f243 := Tryz.func73.trans (congrArg some (by kernel_rfl))
  f246 := Tryz.func103.trans (congrArg some (by kernel_rfl))
  f283 := Tryz.func113.trans (congrArg some (by kernel_rfl))
  f284 := Tryz.func114.trans (congrArg some (by kernel_rfl))
  f285 := Tryz.func115.trans (congrArg some (by kernel_rfl))
  f286 := Tryz.func116.trans (congrArg some (by kernel_rfl))
  f317 := Tryz.func123.trans (congrArg some (by kernel_rfl))
  f318 := Tryz.func125.trans (congrArg some (by kernel_rfl))
  f319 := Tryz.func126.trans (congrArg some (by kernel_rfl))
  f320 := Tryz.func127.trans (congrArg some (by kernel_rfl))
  f337 := Tryz.func133.trans (congrArg some (by kernel_rfl))
  f338 := Tryz.func134.trans (congrArg some (by kernel_rfl))
  t0 := Tryz.underlying0
  a0 := Tryz.isAgg0
  z0 := Tryz.sizeOf0
  v0 := Tryz.zeroValue0
  t2 := Tryz.underlying2
  a2 := Tryz.isAgg2
  z2 := Tryz.sizeOf2
  v2 := Tryz.zeroValue2
  t3 := Tryz.underlying3
  a3 := Tryz.isAgg3
  z3 := Tryz.sizeOf3
  v3 := Tryz.zeroValue3
  t4 := Tryz.underlying4
  a4 := Tryz.isAgg4
  z4 := Tryz.sizeOf4
  v4 := Tryz.zeroValue4
  t5 := Tryz.underlying5
  a5 := Tryz.isAgg5
  z5 := Tryz.sizeOf5
  v5 := Tryz.zeroValue5
  t9 := Tryz.underlying9
  a9 := Tryz.isAgg9
  z9 := Tryz.sizeOf9
  v9 := Tryz.zeroValue9
  t20 := Tryz.underlying20
  a20 := Tryz.isAgg20
  z20 := Tryz.sizeOf20
  v20 := Tryz.zeroValue20
  t37 := Tryz.underlying29
  a37 := Tryz.isAgg29
  z37 := Tryz.sizeOf29
  v37 := Tryz.zeroValue29
  t46 := Tryz.underlying144
  a46 := Tryz.isAgg144
  z46 := Tryz.sizeOf144
  v46 := Tryz.zeroValue144
  t51 := Tryz.underlying171
  a51 := Tryz.isAgg171
  z51 := Tryz.sizeOf171
  v51 := Tryz.zeroValue171
  t53 := Tryz.underlying31
  a53 := Tryz.isAgg31
  z53 := Tryz.sizeOf31
  v53 := Tryz.zeroValue31
  t171 := Tryz.underlying157
  a171 := Tryz.isAgg157
  z171 := Tryz.sizeOf157
  v171 := Tryz.zeroValue157
  t173 := Tryz.underlying160
  a173 := Tryz.isAgg160
  z173 := Tryz.sizeOf160
  v173 := Tryz.zeroValue160
  t212 := Tryz.underlying170
  a212 := Tryz.isAgg170
  z212 := Tryz.sizeOf170
  v212 := Tryz.zeroValue170
  t213 := Tryz.underlying172
  a213 := Tryz.isAgg172
  z213 := Tryz.sizeOf172
  t232 := Tryz.underlying192
  a232 := Tryz.isAgg192
  z232 := Tryz.sizeOf192
  v232 := Tryz.zeroValue192
  t233 := Tryz.underlying156
  a233 := Tryz.isAgg156
  z233 := Tryz.sizeOf156
  v233 := Tryz.zeroValue156
  g17 := by kernel_rfl
  g18 := by kernel_rfl
  g19 := by kernel_rfl
  i0 := by kernel_rfl
  i2 := by kernel_rfl
  i3 := by kernel_rfl
  i4 := by kernel_rfl
  i5 := by kernel_rfl
  i9 := by kernel_rfl
  i20 := by kernel_rfl
  i37 := by kernel_rfl
  i46 := by kernel_rfl
  i51 := by kernel_rfl
  i53 := by kernel_rfl
  i171 := by kernel_rfl
  i173 := by kernel_rfl
  i212 := by kernel_rfl
  i232 := by kernel_rfl
  i233 := by kernel_rfl
  m17 := by kernel_rfl
  m18 := by kernel_rfl
  m19 := by kernel_rfl }
open Go.RowKit Go.Sort Go.Lib in
theorem Tryz.strconv_Itoa (n : Int) (h0 : -9223372036854775808 ≤ n) (h1 : n ≤ 9223372036854775807) (w : World) (htab : Lib.TabIs Tryz.prog w "internal/strconv.uint64pow10" .u64 Lib.pow10Tab) :
    Calls Tryz.prog 48 #[.int .i64 n] w fun e w' => e = .returned (.string ⟨(Lib.itoa n).toArray⟩) ∧ ∃ k os, w' = grow (w.drewN k) os := Any.strconv_Itoa Tryz.laysM171 n h0 h1 w htab
end Go.Proofs

set_option maxRecDepth 100000
namespace Go.Proofs
open Go.Vcg
namespace Rt
attribute [local congr] Reads.congr ReadsS.congr pLoad.congr pLoadS.congr pStore.congr Runs.congr CallsH.congr bcase.congr boolV.congr Stable.congr pAlloc.congr
variable {n : Nat} {h : Heap} {l : List UInt8} {R : Value → Heap → Prop} {E : List PanicEntry → Heap → Prop}

/-! ### Numbers, as the library writes them -/
theorem baseM_dec : ∀ (m : Nat), baseM 10 m = Lib.decDigits m := by
  intro m
  induction m using Nat.strongRecOn with
  | _ m ih =>
    have dg : ∀ d, d < 10 → digitOf d = UInt8.ofNat (48 + d) := by
      intro d hd
      rcases (by omega : d = 0 ∨ d = 1 ∨ d = 2 ∨ d = 3 ∨ d = 4 ∨ d = 5 ∨ d = 6 ∨ d = 7 ∨ d = 8 ∨ d = 9) with rfl | rfl | rfl | rfl | rfl | rfl | rfl | rfl | rfl | rfl <;> rfl
    unfold baseM Lib.decDigits
    by_cases h : m < 10
    · rw [dif_pos (.inl h), dif_pos h, dg m h]
    · rw [dif_neg (by omega), dif_neg h, ih (m / 10) (by omega), dg (m % 10) (by omega)]
/-- the table of powers lies where the text lays it -/
def Pw (h : Heap) : Prop := ∃ t fz, h[23]? = some (.cells (Lib.pow10Tab.map fun z => Value.int .u64 z).toArray t fz)
theorem Pw.fm {h' : Heap} {r : Nat} (p : Pw h) (f : Fm n r h h') (hn : 24 ≤ n) (hr : 24 ≤ r) : Pw h' := by
  obtain ⟨t, fz, e⟩ := p
  exact ⟨t, fz, (f.same 23 (by omega) (by omega)).trans e⟩
theorem itoa_spec {m : Nat} (hp : Pw h) (hm : m < 2 ^ 63) (hk : ∀ h', Fm h.size h.size h h' → R (str (baseM 10 m)) h') : CallsH Tryz.prog 48 #[.int .i64 m] h R E := by
  intro w hw
  subst hw
  obtain ⟨t, fz, e⟩ := hp
  have htab : Lib.TabIs Tryz.prog w "internal/strconv.uint64pow10" .u64 Lib.pow10Tab := by
    unfold Lib.TabIs World.var?
    rw [show Tryz.prog.globalNamed "internal/strconv.uint64pow10" = some 23 from by kernel_rfl]
    simp only [Option.bind_some, e]
  refine Calls.mono (Tryz.strconv_Itoa (m : Int) (by omega) (by omega) w htab) ?_
  rintro e' w' ⟨rfl, k, os, rfl⟩
  have e2 : Lib.itoa (m : Int) = baseM 10 m := by
    unfold Lib.itoa
    rw [if_neg (by omega), baseM_dec]
    rfl
  rw [e2]
  refine ⟨⟨rfl, rfl, rfl⟩, hk _ ⟨?_, fun k hk _ => ?_⟩⟩
  · simp [Go.Sort.grow, World.drewN]
  · simp only [Go.Sort.grow, World.drewN]
    rw [Array.getElem?_append_left hk]
/-! ### A tree, written by the reference -/
theorem rtext_spec : ∀ (m : Nat) {h : Heap} {Q : Nat → Prop} {t : T} {vs : List Value} {R : Value → Heap → Prop} {E : List PanicEntry → Heap → Prop}, szT t ≤ m → szT t ≤ 1000000 → fitT t → kT t → Pw h → 24 ≤ h.size → IsRe h Q t vs → (textM t).length ≤ 1000000 →
    (∀ h', Fm h.size h.size h h' → R (str (textM t)) h') → CallsH Tryz.prog 22 #[.agg vs.toArray] h R E := by
  intro m
  induction m with
  | zero => intro h Q t vs R E hm; cases t; simp [szT] at hm
  | succ m ih =>
    intro h Q t vs R E hm hm0 hfit hkd hpw h24 ht hlen hk
    cases t with
    | node k s mn mx g ts =>
    simp only [fitT] at hfit
    obtain ⟨hs, hmn0, hmn, hmx, hg, hts⟩ := hfit
    simp only [kT] at hkd
    obtain ⟨hk1, hk7, hkl⟩ := hkd
    have hlenT : ts.length ≤ 1000000 := by
      have := szL_len ts
      simp only [szT] at hm0
      omega
    unfold textM at hk hlen
    obtain ⟨q, cc, rfl, hkids⟩ := kidsOf ht
    refine C22 ?_
    unfold S22
    refine new_rule fun h1 a1 => ?_
    have s1 := a1.size
    have f1 : Fm h.size h.size h h1 := Fm.al a1 (Nat.le_refl _)
    have b1 : h1[h.size]? = some (.cells (reL k s mn mx g (.slice q ts.length cc)).toArray 36 (0, 0)) := a1.at_
    have ld : ∀ {h' : Heap} {K : Value → Prop} (i : Nat) (v : Value) (T : TypeId), aggN Tryz.prog T = some none → ((reL k s mn mx g (.slice q ts.length cc)).toArray[i]? = some v) → h'[h.size]? = some (.cells (reL k s mn mx g (.slice q ts.length cc)).toArray 36 (0, 0)) → pLoad Tryz.prog T (.pointer (some ⟨h.size, i, none⟩)) h' K = K v := fun i v T hT hv e => pLoad_one hT (by rw [hcell_of e]; exact hv)
    have dk : ∀ x : Nat, decide ((k : Int) = x) = decide (k = x) := fun x => dec_nn_eq k x
    rw [Tryz.fa36_0, addr_add, ld 0 (.int .i64 k) 3 Tryz.agg3 rfl b1, reads_eq, show decide ((k : Int) = 1) = decide (k = 1) from dk 1, boolV_bool]
    refine bcase_of (fun h1k => ?_) (fun h1k => ?_)
    · rw [if_pos (of_decide_eq_true h1k)] at hk
      refine ⟨fun h' => h'[h.size]? = some (.cells (reL k s mn mx g (.slice q ts.length cc)).toArray 36 (0, 0)), b1, ?_⟩
      refine readsS_lift (fun h k => Tryz.fa36_1) ?_
      rw [addr_add, Nat.zero_add]
      refine pLoadS_row Tryz.agg33 (by simp [reL, W4.vals]) (fun h' hh => hh) ?_
      rw [show (.agg ((((reL k s mn mx g (.slice q ts.length cc)).toArray.toList.drop 1).take 4).toArray) : Value) = .agg s.vals.toArray from rfl]
      refine readsS_lift (fun h k => Tryz.bd33) ?_
      refine ⟨?_, trivial⟩
      refine rnot_spec (s := W4.zero) W4.zero_ok fun h2 f2 => ?_
      have s2 := f2.size
      have b2 := (f2.same _ (by omega) (by omega)).trans b1
      refine ⟨b2, ?_⟩
      have f02 := f1.trans (Fm.lift (n := h.size) (r := h.size) f2 (by omega) (by omega))
      rw [reads_eqSet, boolV_bool]
      refine bcase_of (fun he => ?_) (fun he => ?_)
      · have he : s = anyW := of_decide_eq_true he
        rw [if_pos he] at hk
        exact hk h2 f02
      · have he : ¬ s = anyW := of_decide_eq_false he
        rw [if_neg he] at hk
        rw [Tryz.fa36_1, addr_add, Nat.zero_add]
        refine load_row b2 Tryz.agg33 (by simp [reL, W4.vals]) ?_
        rw [show (.agg ((((reL k s mn mx g (.slice q ts.length cc)).toArray.toList.drop 1).take 4).toArray) : Value) = .agg s.vals.toArray from rfl]
        exact rsetText_spec hs fun h3 f3 => hk h3 (f02.trans (Fm.lift f3 (by omega) (by omega)))
    have n1 := of_decide_eq_false h1k
    rw [if_neg n1] at hk hlen
    rw [reads_eq, show decide ((k : Int) = 2) = decide (k = 2) from dk 2, boolV_bool]
    refine bcase_of (fun h2k => ?_) (fun h2k => ?_)
    · rw [if_pos (of_decide_eq_true h2k)] at hk
      exact hk h1 f1
    have n2 := of_decide_eq_false h2k
    rw [if_neg n2] at hk hlen
    rw [reads_eq, show decide ((k : Int) = 3) = decide (k = 3) from dk 3, boolV_bool]
    refine bcase_of (fun h3k => ?_) (fun h3k => ?_)
    · rw [if_pos (of_decide_eq_true h3k)] at hk
      exact hk h1 f1
    have n3 := of_decide_eq_false h3k
    rw [if_neg n3] at hk hlen
    have hlh : (headM k mn mx g).length + (textsM ts).length + 1 ≤ 1000000 := by
      simp only [List.length_append, List.length_cons, List.length_nil] at hlen
      omega
    refine Join1.intro (fun v h' => v = str (headM k mn mx g) ∧ Fm h1.size h1.size h1 h') ?_ ?_
    · have hmx' := numM_len hmx
      have hmn' := numM_len hmn
      have hg' := baseM_len (base := 10) (by omega) 63 g (by omega)
      rw [Tryz.fa36_0, addr_add, ld 0 (.int .i64 k) 3 Tryz.agg3 rfl b1, reads_eq, show decide ((k : Int) = 5) = decide (k = 5) from dk 5, boolV_bool]
      refine bcase_of (fun h5k => ?_) (fun h5k => ?_)
      · have e5 := of_decide_eq_true h5k
        subst e5
        exact ⟨rfl, Fm.refl ..⟩
      have n5 := of_decide_eq_false h5k
      rw [reads_eq, show decide ((k : Int) = 7) = decide (k = 7) from dk 7, boolV_bool]
      refine bcase_of (fun h7k => ?_) (fun h7k => ?_)
      · have e7 := of_decide_eq_true h7k
        subst e7
        rw [Tryz.fa36_4, addr_add, Nat.zero_add, ld 7 (.int .i64 g) 3 Tryz.agg3 rfl b1]
        refine itoa_spec (hpw.fm f1 h24 h24) hg fun h4 f4 => ?_
        rw [reads_sadd (by simp; omega)]
        exact ⟨rfl, f4⟩
      have n7 := of_decide_eq_false h7k
      rw [reads_eq, show decide ((k : Int) = 6) = decide (k = 6) from dk 6, boolV_bool]
      refine bcase_of (fun h6k => ?_) (fun h6k => ?_)
      · have e6 := of_decide_eq_true h6k
        subst e6
        refine Join1.intro (fun v h' => v = str (if 0 ≤ mx then numM mx else [45]) ∧ Fm h1.size h1.size h1 h') ?_ ?_
        · rw [Tryz.fa36_3, addr_add, Nat.zero_add, ld 6 (.int .i64 mx) 3 Tryz.agg3 rfl b1, reads_ge, boolV_bool]
          refine bcase_of (fun hp => ?_) (fun hp => ?_)
          · have hp : 0 ≤ mx := of_decide_eq_true hp
            rw [Tryz.fa36_3, addr_add, Nat.zero_add, ld 6 (.int .i64 mx) 3 Tryz.agg3 rfl b1, int_cast hp]
            refine itoa_spec (hpw.fm f1 h24 h24) (intMax hp hmx) fun h4 f4 => ?_
            rw [if_pos hp]
            exact ⟨rfl, f4⟩
          · have hp : ¬ 0 ≤ mx := of_decide_eq_false hp
            rw [if_neg hp]
            exact ⟨rfl, Fm.refl ..⟩
        rintro v h6 ⟨rfl, f6⟩
        have s6 := f6.size
        have hpl : (if 0 ≤ mx then numM mx else [45]).length ≤ 64 := by
          split
          · omega
          · simp
        rw [Tryz.fa36_2, addr_add, Nat.zero_add, ld 5 (.int .i64 mn) 3 Tryz.agg3 rfl ((f6.same _ (by omega) (by omega)).trans b1), int_cast hmn0]
        refine itoa_spec ((hpw.fm f1 h24 h24).fm f6 (by omega) (by omega)) (intMax hmn0 hmn) fun h7 f7 => ?_
        have hmn2 : (baseM 10 mn.toNat).length ≤ 64 := hmn'
        rw [reads_sadd (by simp; omega), reads_sadd (by simp; omega), reads_sadd (by simp; omega)]
        exact ⟨rfl, f6.trans (Fm.lift f7 (by omega) (by omega))⟩
      · have n6 := of_decide_eq_false h6k
        obtain rfl : k = 4 := by omega
        exact ⟨rfl, Fm.refl ..⟩
    rintro v h8 ⟨rfl, f8⟩
    have s8 := f8.size
    have b8 := (f8.same _ (by omega) (by omega)).trans b1
    have f08 := f1.trans (Fm.lift (n := h.size) (r := h.size) f8 (by omega) (by omega))
    rw [Tryz.fa36_5, addr_add, Nat.zero_add, ld 8 (.slice q ts.length cc) 34 Tryz.agg34 rfl b8, reads_rlen Tryz.underlying34]
    refine Loop2.fuel (fun j a c h' => ∃ i : Nat, i ≤ ts.length ∧ j = ts.length - i ∧ c = .int .i64 i ∧ a = str (headM k mn mx g ++ textsM (ts.take i)) ∧ Fm h.size h.size h h' ∧ h8.size ≤ h'.size) (n := ts.length)
      ⟨0, by omega, by simp, rfl, by simp [textsM], f08, Nat.le_refl _⟩ fun j a c h9 hi => ?_
    obtain ⟨i, hi, rfl, rfl, rfl, f9, s9⟩ := hi
    have htake : ∀ i, (textsM (ts.take i)).length ≤ (textsM ts).length := by
      intro i
      have := congrArg List.length (textsM_append (ts.take i) (ts.drop i))
      rw [List.take_append_drop, List.length_append] at this
      omega
    have hti := htake i
    rw [reads_lt, dec_nn_lt, boolV_bool]
    refine bcase_of (fun hc => ?_) (fun hc => ?_)
    · have hlt : i < ts.length := of_decide_eq_true hc
      obtain ⟨bk, cur, rfl, hcur, hbk, hrow⟩ := hkids (by rintro rfl; simp at hlt)
      have d9 := (f9.same bk (at_lt hbk) (by have := at_lt hbk; omega)).trans hbk
      have htk : IsRe h Q ts[i] ((cur.toList.drop (i * 9)).take 9) := by
        have := hrow.get hlt
        rwa [take_drop9 hlt] at this
      rw [reads_idxRow Tryz.underlying34 Tryz.size36 hlt, addr_add, Nat.zero_add]
      refine load_row d9 Tryz.agg36 (by omega) ?_
      refine alloc_rule Tryz.zero36 fun h10 a10 => ?_
      have s10 := a10.size
      refine storeFull a10.at_ (xs := ((cur.toList.drop (i * 9)).take 9).toArray) (by rw [Tryz.size36]; simp only [List.size_toArray, htk.len]) (by simp only [List.size_toArray, htk.len]; rfl) (by simpa using htk.flat) fun h11 u11 => ?_
      have s11 := u11.size
      refine load_all u11.same (by rw [Tryz.agg36]; simp only [List.size_toArray, htk.len]) ?_
      have f11 : Fm h.size h.size h h11 := f9.trans ((Fm.al a10 (by omega)).trans (Fm.upd u11 (.inl (by omega))))
      have hsz : szT ts[i] ≤ szL ts := szL_get hlt
      have hone : (textsM (ts.take (i + 1))) = textsM (ts.take i) ++ (32 :: textM ts[i]) := by
        rw [List.take_add_one, List.getElem?_eq_getElem hlt, Option.toList_some, textsM_append]
        simp [textsM]
      have hti1 := htake (i + 1)
      have hl1 : (textsM (ts.take i)).length + ((textM ts[i]).length + 1) ≤ (textsM ts).length := by
        rw [hone, List.length_append, List.length_cons] at hti1
        exact hti1
      refine ih (by simp only [szT] at hm; omega) (by simp only [szT] at hm0; omega) (fitL_get hlt hts) (kL_get hlt hkl) (hpw.fm f11 h24 h24) (by omega) (htk.frame (Q' := fun _ => True) fun b hb hlt => ⟨trivial, f11.same b hlt (by omega)⟩) (by omega) fun h12 f12 => ?_
      have s12 := f12.size
      rw [reads_sadd (by simp; omega), reads_sadd (by simp; omega), reads_add, wrap_n1 _ (by omega)]
      refine ⟨ts.length - (i + 1), by omega, i + 1, by omega, rfl, rfl, ?_, f11.trans (Fm.lift f12 (by omega) (by omega)), by omega⟩
      rw [hone]
      simp
    · have hil : i = ts.length := by have := of_decide_eq_false hc; omega
      rw [reads_sadd (by simp; omega)]
      subst hil
      rw [List.take_length]
      exact hk h9 f9
end Rt
end Go.Proofs

set_option maxRecDepth 100000
namespace Go.Proofs.YthlncmkeccgfeaaGreatDoor
open Go.Vcg Go.ChangeShapes Go.WideShapes Go.ChangeAt Go.RowKit
namespace Frm

/-! ### The frame with three tables ahead -/
def tabs : List (String × DataW Unit) := [("math/bits.deBruijn32tab", Rows.laid_math_bits_deBruijn32tab), ("math/bits.deBruijn64tab", Rows.laid_math_bits_deBruijn64tab)]
def pow0 : String × DataW Unit := ("internal/strconv.uint64pow10", Rows.laid_internal_strconv_uint64pow10)
def laidP : List (String × DataW Unit) := tabs ++ pow0 :: err0 :: sents.map mk
theorem met_tail {x : String × DataW Unit} {l : List (String × DataW Unit)} {W : World} (h : laidMet Tryz.prog (x :: l) W) : laidMet Tryz.prog l W := by
  obtain ⟨ps, h1, h2, h3⟩ := h
  obtain ⟨g, t, cs, fuel, p, q, _, _, _, _, hrest, rfl⟩ := h1
  exact ⟨q, hrest, (List.nodup_append.1 h2).2.1, fun b off hm => h3 b off (List.mem_append_right _ hm)⟩
theorem glob23 : Tryz.prog.globalNamed "internal/strconv.uint64pow10" = some 23 := by kernel_rfl
theorem pw {W : World} {l : List (String × DataW Unit)} (h : laidMet Tryz.prog (pow0 :: l) W) : Rt.Pw W.heap := by
  have e : pow0 = ("internal/strconv.uint64pow10", Lib.tabData .u64 Lib.pow10Tab) := by kernel_rfl
  rw [e] at h
  have ht := Lib.tabIs_of_head (t := 170) (e := 31) (n := 20) glob23 (by kernel_rfl) (by kernel_rfl) Tryz.underlying31 (by kernel_rfl) (by kernel_rfl) h
  unfold Lib.TabIs World.var? at ht
  rw [glob23] at ht
  simp only [Option.bind_some] at ht
  cases hc : W.heap[23]? with
  | none => rw [hc] at ht; cases ht
  | some o =>
    rw [hc] at ht
    cases o with
    | cells cs t fz =>
      simp only [Option.some.injEq] at ht
      subst ht
      exact ⟨t, fz, hc⟩
    | _ => cases ht
theorem parts {W : World} (h : laidMetH Tryz.prog laidP W) : laidMet Tryz.prog (tabs ++ pow0 :: sents.map mk) W ∧ handlesMet Tryz.prog [err0] W := ⟨h.1, h.2⟩
theorem glbP {W : World} (h : laidMetH Tryz.prog laidP W) (hs : W.ShapedOpen Tryz.prog) : (∃ S : Rt.Glb, Rt.Gl S W.heap ∧ S.N ≤ W.heap.size) ∧ Rt.Pw W.heap ∧ 24 ≤ W.heap.size := by
  obtain ⟨h1, h2⟩ := parts h
  have h3 : laidMet Tryz.prog (pow0 :: sents.map mk) W := met_tail (met_tail h1)
  refine ⟨glb (more := []) (by rw [List.append_nil]; exact met_tail h3) h2 hs, pw h3, by have := size26 hs; omega⟩
theorem door_metP (os : Os) (args : Array Value) : laidMetH Tryz.prog laidP ((World.doorLaid Tryz.prog 430 os).forCall (fun _ _ => 0) ⟨#[], args, []⟩).memory :=
  laidMetH_of_parts (laidMet_of_run' 8 (by kernel_rfl) (by kernel_rfl)) (by kernel_rfl)
end Frm
end Go.Proofs.YthlncmkeccgfeaaGreatDoor
