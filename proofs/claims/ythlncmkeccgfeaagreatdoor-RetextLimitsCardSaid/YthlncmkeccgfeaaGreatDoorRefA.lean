/- A part of the proofs over this seat: RefA. -/
import Derived.Test.YthlncmkeccgfeaaGreatDoorRef4
set_option linter.unusedVariables false
set_option linter.unusedSimpArgs false
set_option maxRecDepth 100000
namespace Go.Proofs
open Go.Vcg
namespace Rt
attribute [local congr] Reads.congr ReadsS.congr pLoad.congr pLoadS.congr pStore.congr Runs.congr CallsH.congr bcase.congr boolV.congr Stable.congr pAlloc.congr
variable {S : Glb} {n : Nat} {h : Heap} {r : Nat} {bv : Value} {l : List UInt8} {p lang : Nat} {R : Value → Heap → Prop} {E : List PanicEntry → Heap → Prop}

/-! ### The reference's item of a bracket -/
theorem idx_step {k : Nat} (hk : k + 1 < l.length) : Go.Lib.index (l.drop k) [58, 93] = if l[k]? = some 58 ∧ l[k + 1]? = some 93 then 0 else if Go.Lib.index (l.drop (k + 1)) [58, 93] = -1 then -1 else Go.Lib.index (l.drop (k + 1)) [58, 93] + 1 := by
  rw [List.drop_eq_getElem_cons (show k < l.length from by omega), List.drop_eq_getElem_cons hk, List.getElem?_eq_getElem (show k < l.length from by omega), List.getElem?_eq_getElem hk]
  rw [Go.Lib.index]
  have ec : ∀ x y : UInt8, (x == y) = decide (y = x) := fun x y => (decide_eq_decide.2 eq_comm : decide (x = y) = decide (y = x))
  have e : List.isPrefixOf [58, 93] (l[k] :: l[k + 1] :: List.drop (k + 1 + 1) l) = decide (l[k] = 58 ∧ l[k + 1] = 93) := by
    simp only [List.isPrefixOf, Bool.decide_and, ec, Bool.and_true]
  have hiff : (some l[k] = some 58 ∧ some l[k + 1] = some 93) ↔ (l[k] = 58 ∧ l[k + 1] = 93) := by simp
  rw [e]
  by_cases h : l[k] = 58 ∧ l[k + 1] = 93
  · rw [if_pos (decide_eq_true h), if_pos (hiff.2 h)]
  · have h' : ¬ decide (l[k] = 58 ∧ l[k + 1] = 93) = true := by rw [decide_eq_true_eq]; exact h
    rw [if_neg h', if_neg (fun x => h (hiff.1 x))]
    by_cases h2 : Go.Lib.index (l[k + 1] :: List.drop (k + 1 + 1) l) [58, 93] = -1
    · have h3 : (Go.Lib.index (l[k + 1] :: List.drop (k + 1 + 1) l) [58, 93] == -1) = true := by rw [h2]; rfl
      rw [if_pos h3, if_pos h2]
    · have h3 : ¬ (Go.Lib.index (l[k + 1] :: List.drop (k + 1 + 1) l) [58, 93] == -1) = true := by simpa using h2
      rw [if_neg h3, if_neg h2]
theorem idx_short {k : Nat} (hk : l.length ≤ k + 1) : Go.Lib.index (l.drop k) [58, 93] = -1 := by
  have : (l.drop k).length ≤ 1 := by simp; omega
  match hm : l.drop k with
  | [] => rfl
  | [c] =>
    unfold Go.Lib.index
    have e : List.isPrefixOf [58, 93] [c] = false := by simp [List.isPrefixOf]
    rw [e]
    rfl
  | _ :: _ :: _ => rw [hm] at this; simp at this
def OwesR (h : Heap) (p : Nat) (m : Res ItemR) (R : Value → Heap → Prop) : Prop :=
  match m with
  | .out => True
  | .bad code pos => ∀ h' (s : W4), Fm h.size h.size h h' → R (.tuple #[.int .i64 0, .agg s.vals.toArray, .int .i64 p, .int .i64 code, .int .i64 pos]) h'
  | .ok x => ∀ h', Fm h.size h.size h h' → R (.tuple #[.int .i64 (if x.1 then (x.2.1.toNat : Int) else -1), .agg (if x.1 then W4.zero else x.2.2.1).vals.toArray, .int .i64 x.2.2.2, .int .i64 0, .int .i64 0]) h'
theorem ritem_spec (hb : IsBytes h bv l) (hbl : ∀ b o m c, bv = .slice (some ⟨b, o, none⟩) m c → b < h.size) (hlen : l.length ≤ 65536) (hp : p < l.length) (hl2 : lang ≠ 2) (hk : OwesR h p (itemS lang l p) R) : CallsH Tryz.prog 92 #[bv, .int .i64 p, .int .i64 lang] h R E := by
  refine C92 ?_
  unfold S92
  refine alloc_rule Tryz.zero33 fun h1 a1 => ?_
  have s1 := a1.size
  have f1 : Fm h.size h.size h h1 := Fm.al a1 (Nat.le_refl _)
  have hb1 := hb.frame fun b o k hv => f1.same b (hbl b o _ k hv) (by have := hbl b o _ k hv; omega)
  refine idx_load hb1 Tryz.underlying29 Tryz.size5 Tryz.agg5 hp ?_
  have r1 := a1.at_
  have fin : ∀ {h' : Heap} {s : W4} {x y z w : Value}, Fm h1.size h1.size h1 h' → (∀ h9, Fm h.size h.size h h9 → R (.tuple #[x, .agg s.vals.toArray, y, z, w]) h9) → pStore Tryz.prog 33 (.pointer (some ⟨h.size, 0, none⟩)) (.agg s.vals.toArray) h' fun h9 => pLoad Tryz.prog 33 (.pointer (some ⟨h.size, 0, none⟩)) h9 fun r7 => R (.tuple #[x, r7, y, z, w]) h9 := by
    intro h' s x y z w f' hq
    have s' := f'.size
    refine putSet ((f'.same _ (by omega) (by omega)).trans r1) rfl fun h9 u9 => ?_
    exact getSet u9.same (hq h9 (f1.trans ((Fm.lift f' (by omega) (by omega)).trans (Fm.upd u9 (.inl (Nat.le_refl _))))))
  have f0 := Fm.refl h1.size h1.size h1
  have e0 : isB l p 91 = decide (l[p] = 91) := by unfold isB; rw [List.getElem?_eq_getElem hp]; exact decide_eq_decide.2 (by simp)
  have e92 : decide (lang = 2) = false := decide_eq_false hl2
  have at1 : ∀ (q : p + 1 < l.length) (x : UInt8), isB l (p + 1) x = decide (l[p + 1] = x) := fun q x => by unfold isB; rw [List.getElem?_eq_getElem q]; exact decide_eq_decide.2 (by simp)
  have no1 : ¬ p + 1 < l.length → ∀ x : UInt8, isB l (p + 1) x = false := fun q x => by unfold isB; rw [List.getElem?_eq_none (by omega)]; rfl
  unfold itemS at hk
  refine Join0.intro (fun h' => h' = h1 ∧ (isB l p 91 && (isB l (p + 1) 46 || isB l (p + 1) 61)) = false) ?_ ?_
  · have e8 : decide ((l[p].toNat : Int) = 91) = decide (l[p] = 91) := dec_u8_eq _ 91
    rw [reads_eq, e8, ← e0, boolV_bool]
    refine bcase_of (fun h91 => ?_) (fun h91 => ⟨rfl, rfl, rfl, rfl, rfl, rfl, rfl, by rw [h91]; rfl⟩)
    rw [reads_add, wrap_n1 _ (by omega), reads_blen hb1 Tryz.underlying29, reads_lt, dec_nn_lt, boolV_bool]
    refine bcase_of (fun hc => ?_) (fun hc => ⟨rfl, rfl, rfl, rfl, rfl, rfl, rfl, by rw [no1 (of_decide_eq_false hc), no1 (of_decide_eq_false hc)]; simp⟩)
    have hlt : p + 1 < l.length := of_decide_eq_true hc
    rw [reads_add, wrap_n1 _ (by omega)]
    refine idx_load hb1 Tryz.underlying29 Tryz.size5 Tryz.agg5 hlt ?_
    have e46 : decide ((l[p + 1].toNat : Int) = 46) = isB l (p + 1) 46 := by rw [at1 hlt]; exact dec_u8_eq _ 46
    have e61 : decide ((l[p + 1].toNat : Int) = 61) = isB l (p + 1) 61 := by rw [at1 hlt]; exact dec_u8_eq _ 61
    rw [reads_eq, e46, boolV_bool]
    refine bcase_of (fun h46 => ?_) (fun h46 => ?_)
    · rw [if_pos (by rw [h91, h46]; rfl)] at hk
      rw [Tryz.bd33]
      exact fin (s := W4.zero) f0 fun h9 f9 => hk h9 _ f9
    rw [reads_add, wrap_n1 _ (by omega)]
    refine idx_load hb1 Tryz.underlying29 Tryz.size5 Tryz.agg5 hlt ?_
    rw [reads_eq, e61, boolV_bool]
    refine bcase_of (fun h61 => ?_) (fun h61 => ⟨rfl, by rw [h46, h61]; simp⟩)
    rw [if_pos (by rw [h91, h61]; simp)] at hk
    rw [Tryz.bd33]
    exact fin (s := W4.zero) f0 fun h9 f9 => hk h9 _ f9
  rintro h4 ⟨rfl, hno⟩
  rw [if_neg (by rw [hno]; simp)] at hk
  refine Join1.intro (fun v h' => h' = h4 ∧ v = .bool (isB l p 91 && isB l (p + 1) 58)) ?_ ?_
  · have e8 : decide ((l[p].toNat : Int) = 91) = decide (l[p] = 91) := dec_u8_eq _ 91
    rw [reads_eq, e8, ← e0, boolV_bool]
    refine bcase_of (fun h91 => ?_) (fun h91 => ⟨rfl, by rw [h91]; rfl⟩)
    rw [reads_add, wrap_n1 _ (by omega), reads_blen hb1 Tryz.underlying29, reads_lt, dec_nn_lt, boolV_bool]
    refine bcase_of (fun hc => ?_) (fun hc => ⟨rfl, by rw [no1 (of_decide_eq_false hc)]; simp⟩)
    have hlt : p + 1 < l.length := of_decide_eq_true hc
    rw [reads_add, wrap_n1 _ (by omega)]
    refine idx_load hb1 Tryz.underlying29 Tryz.size5 Tryz.agg5 hlt ?_
    have e58 : decide ((l[p + 1].toNat : Int) = 58) = isB l (p + 1) 58 := by rw [at1 hlt]; exact dec_u8_eq _ 58
    rw [reads_eq, e58]
    exact ⟨rfl, by rw [h91]; rfl⟩
  rintro v h5 ⟨rfl, rfl⟩
  rw [boolV_bool]
  refine bcase_of (fun hcl => ?_) (fun hcl => ?_)
  · rw [if_pos hcl] at hk
    have hp1 : p + 1 < l.length := by simp only [Bool.and_eq_true] at hcl; exact isB_lt hcl.2
    rw [reads_add, wrap_n2 _ (by omega)]
    refine Loop1.fuel (fun j a h' => h' = h5 ∧ ∃ k : Nat, a = .int .i64 k ∧ p + 2 ≤ k ∧ k ≤ l.length ∧ j = l.length - k ∧ Go.Lib.index (l.drop (p + 2)) [58, 93] = if Go.Lib.index (l.drop k) [58, 93] = -1 then -1 else ((k - (p + 2) : Nat) : Int) + Go.Lib.index (l.drop k) [58, 93])
      (n := l.length - (p + 2)) ⟨rfl, p + 2, rfl, Nat.le_refl _, by omega, rfl, ?_⟩ fun j a h6 hi => ?_
    · split
      · assumption
      · simp
    obtain ⟨rfl, k, rfl, hk1, hk2, rfl, hidx⟩ := hi
    rw [reads_add, wrap_n1 _ (by omega), reads_blen hb1 Tryz.underlying29, reads_lt, dec_nn_lt, boolV_bool]
    refine bcase_of (fun hc => ?_) (fun hc => ?_)
    · have hlt : k + 1 < l.length := of_decide_eq_true hc
      have hst := idx_step hlt
      refine Join1.intro (fun v h' => h' = h6 ∧ v = .bool (decide (l[k]? = some 58 ∧ l[k + 1]? = some 93))) ?_ ?_
      · refine idx_load hb1 Tryz.underlying29 Tryz.size5 Tryz.agg5 (show k < l.length from by omega) ?_
        have e58 : decide ((l[k].toNat : Int) = 58) = decide (l[k] = 58) := dec_u8_eq _ 58
        rw [reads_eq, e58, boolV_bool]
        refine bcase_of (fun h58 => ?_) (fun h58 => ?_)
        · have h58 := of_decide_eq_true h58
          rw [reads_add, wrap_n1 _ (by omega)]
          refine idx_load hb1 Tryz.underlying29 Tryz.size5 Tryz.agg5 hlt ?_
          have e93 : decide ((l[k + 1].toNat : Int) = 93) = decide (l[k + 1] = 93) := dec_u8_eq _ 93
          rw [reads_eq, e93]
          refine ⟨rfl, ?_⟩
          congr 1
          apply decide_eq_decide.2
          rw [List.getElem?_eq_getElem (show k < l.length from by omega), List.getElem?_eq_getElem hlt, h58]
          simp
        · have h58 := of_decide_eq_false h58
          refine ⟨rfl, ?_⟩
          congr 1
          symm
          apply decide_eq_false
          rw [List.getElem?_eq_getElem (show k < l.length from by omega)]
          simp [h58]
      rintro v h7 ⟨rfl, rfl⟩
      rw [boolV_bool]
      refine bcase_of (fun hf => ?_) (fun hf => ?_)
      · rw [if_pos (of_decide_eq_true hf)] at hst
        rw [hst, if_neg (by decide)] at hidx
        have hcut : Go.Lib.cut (l.drop (p + 2)) [58, 93] = ((l.drop (p + 2)).take (k - (p + 2)), (l.drop (p + 2)).drop (k - (p + 2) + 2), true) := by
          unfold Go.Lib.cut
          rw [hidx, if_pos (by omega)]
          have : (((k - (p + 2) : Nat) : Int) + 0).toNat = k - (p + 2) := by omega
          rw [this]
          rfl
        rw [hcut] at hk
        simp only [if_true] at hk
        rw [reads_add, wrap_n2 _ (by omega)]
        refine reads_bslice hb1 Tryz.underlying29 Tryz.size5 (by omega) (by omega) fun u hu => ?_
        rw [reads_bstring hu Tryz.underlying29 Tryz.underlying5 Tryz.underlying9]
        have enm : (l.take k).drop (p + 2) = (l.drop (p + 2)).take (k - (p + 2)) := List.drop_take ..
        rw [enm]
        generalize hnm : (l.drop (p + 2)).take (k - (p + 2)) = nm at *
        have hnl : nm.length = k - (p + 2) := by rw [← hnm]; simp; omega
        refine rclass_spec fun h8 f8 => ?_
        have s8 := f8.size
        have go : ∀ (s : W4) (b : Bool), classV nm = .tuple #[.agg s.vals.toArray, .bool b] → (b = false → ∀ h9, Fm h.size h.size h h9 → R (.tuple #[.int .i64 0, .agg s.vals.toArray, .int .i64 p, .int .i64 8, .int .i64 p]) h9) →
            (b = true → ∀ h9, Fm h.size h.size h h9 → R (.tuple #[.int .i64 (-1), .agg s.vals.toArray, .int .i64 (k + 2 : Nat), .int .i64 0, .int .i64 0]) h9) → (fun v h8 => Reads Tryz.prog (Instr.extract v 0) h8 fun t94 => Reads Tryz.prog (Instr.extract v 1) h8 fun t95 => pAlloc Tryz.prog 33 h8 fun t13 h9 => pStore Tryz.prog 33 t13 t94 h9 fun h10 =>
              Reads Tryz.prog (Op.unary .not t95) h10 fun t97 => boolV t97 fun b17 => bcase b17 (
                Stable h10 fun S18 => pLoadS Tryz.prog 33 t13 S18 fun t98 => (pStore Tryz.prog 33 (.pointer (some ⟨h.size, 0, none⟩)) t98 h10 fun h11 => S18 h11 ∧ (pLoad Tryz.prog 33 (.pointer (some ⟨h.size, 0, none⟩)) h11 fun r19 => R (.tuple #[(.int .i64 0), r19, .int .i64 p, (.int .i64 8), .int .i64 p]) h11)) ∧ True) (
                Stable h10 fun S20 => pLoadS Tryz.prog 33 t13 S20 fun t101 => ReadsS Tryz.prog (binS .add 3 true (.int .i64 k) (.int .i64 2)) S20 fun t103 => (pStore Tryz.prog 33 (.pointer (some ⟨h.size, 0, none⟩)) t101 h10 fun h12 => S20 h12 ∧ (pLoad Tryz.prog 33 (.pointer (some ⟨h.size, 0, none⟩)) h12 fun r21 => R (.tuple #[(.int .i64 (-1)), r21, t103, (.int .i64 0), (.int .i64 0)]) h12)) ∧ True)) (classV nm) h8 := by
          intro s b hv hbad hgood
          rw [hv]
          rw [reads_ext0, reads_ext1]
          refine alloc_rule Tryz.zero33 fun h9 a9 => ?_
          have s9 := a9.size
          refine putSet (s := s) a9.at_ rfl fun h10 u10 => ?_
          have s10 := u10.size
          have f10 : Fm h7.size h7.size h7 h10 := f8.trans ((Fm.al a9 (by omega)).trans (Fm.upd u10 (.inl (by omega))))
          have r10 := (f10.same h.size (by omega) (by omega)).trans r1
          have last : ∀ {x y z w : Value}, (∀ h9, Fm h.size h.size h h9 → R (.tuple #[x, .agg s.vals.toArray, y, z, w]) h9) → pStore Tryz.prog 33 (.pointer (some ⟨h.size, 0, none⟩)) (.agg s.vals.toArray) h10 fun h9' => At h9' h8.size s ∧ pLoad Tryz.prog 33 (.pointer (some ⟨h.size, 0, none⟩)) h9' fun r7 => R (.tuple #[x, r7, y, z, w]) h9' := by
            intro x y z w hq
            refine putSet r10 rfl fun h9 u9 => ⟨(u9.other _ (by omega)).trans u10.same, ?_⟩
            exact getSet u9.same (hq h9 (f1.trans ((Fm.lift f10 (by omega) (by omega)).trans (Fm.upd u9 (.inl (Nat.le_refl _))))))
          rw [reads_not, boolV_bool]
          refine bcase_of (fun hb => ?_) (fun hb => ?_)
          · refine ⟨fun h' => At h' h8.size s, u10.same, getSetS (fun h' hh => hh) ⟨last (hbad (by simpa using hb)), trivial⟩⟩
          · refine ⟨fun h' => At h' h8.size s, u10.same, getSetS (fun h' hh => hh) ?_⟩
            refine readsS_lift (v := .int .i64 (k + 2 : Nat)) (fun h k => by rw [reads_add, wrap_n2 _ (by omega)]) ⟨last (hgood (by simpa using hb)), trivial⟩
        cases hcm : classM nm with
        | none =>
          rw [hcm] at hk
          exact go W4.zero false (by unfold classV; rw [hcm]) (fun _ h9 f9 => hk h9 _ f9) (fun e => by cases e)
        | some s =>
          rw [hcm] at hk
          refine go s true (by unfold classV; rw [hcm]) (fun e => by cases e) (fun _ h9 f9 => ?_)
          have := hk h9 f9
          have e : p + nm.length + 4 = k + 2 := by omega
          simp only [e, Bool.false_eq_true, if_false] at this
          exact this
      · rw [if_neg (of_decide_eq_false hf)] at hst
        rw [reads_add, wrap_n1 _ (by omega)]
        refine ⟨l.length - (k + 1), by omega, rfl, k + 1, rfl, by omega, by omega, rfl, ?_⟩
        rw [hidx, hst]
        have hge := Go.Lib.index_ge (l.drop (k + 1)) [58, 93]
        by_cases h2 : Go.Lib.index (l.drop (k + 1)) [58, 93] = -1
        · rw [if_pos h2, if_pos rfl, if_pos h2]
        · rw [if_neg h2, if_neg (by omega), if_neg h2]
          omega
    · have hge : l.length ≤ k + 1 := by have := of_decide_eq_false hc; omega
      rw [idx_short hge, if_pos rfl] at hidx
      have hcut : (Go.Lib.cut (l.drop (p + 2)) [58, 93]).2.2 = false := by
        unfold Go.Lib.cut
        rw [hidx, if_neg (by decide)]
      rw [hcut] at hk
      rw [Tryz.bd33]
      refine fin (s := W4.zero) f0 fun h9 f9 => ?_
      cases hcm : classM (Go.Lib.cut (l.drop (p + 2)) [58, 93]).1 with
      | none => rw [hcm] at hk; exact hk h9 _ f9
      | some s => rw [hcm] at hk; exact hk h9 _ f9
  · rw [if_neg (by rw [hcl]; simp), e92, Bool.and_false, if_neg (by simp)] at hk
    refine Join1.intro (fun v h' => h' = h5 ∧ v = .bool false) ?_ ?_
    · rw [reads_eq, boolV_bool]
      refine bcase_of (fun _ => ?_) (fun _ => ⟨rfl, rfl⟩)
      rw [reads_eq, show (2 : Int) = ((2 : Nat) : Int) from rfl, dec_nn_eq, e92]
      exact ⟨rfl, rfl⟩
    rintro v h6 ⟨rfl, rfl⟩
    have hc := l[p].toNat_lt
    rw [boolV_bool, bcase_false, reads_conv_int Tryz.underlying5 Tryz.underlying3, wrapN _ _ rfl (by omega), Tryz.bd33, reads_add, wrap_n1 _ (by omega)]
    refine fin (s := W4.zero) f0 fun h9 f9 => ?_
    have := hk h9 f9
    rw [List.getElem?_eq_getElem hp] at this
    exact this
end Rt
end Go.Proofs

set_option maxRecDepth 100000
namespace Go.Proofs
open Go.Vcg
namespace Rt
attribute [local congr] Reads.congr ReadsS.congr pLoad.congr pLoadS.congr pStore.congr Runs.congr CallsH.congr bcase.congr boolV.congr Stable.congr pAlloc.congr
variable {S : Glb} {n : Nat} {h : Heap} {r : Nat} {bv : Value} {l : List UInt8} {p lang : Nat} {R : Value → Heap → Prop} {E : List PanicEntry → Heap → Prop}

/-! ### The reference's bracket -/
theorem W4.zero_or (s : W4) : W4.zero.or s = s := by
  cases s
  simp [W4.or, W4.zero]
theorem union2 (s t : W4) : unionM [s, t] = s.or t := by
  unfold unionM
  simp only [List.foldl_cons, List.foldl_nil, W4.zero_or]
theorem put_or (s : W4) (c : UInt8) : s.put c = s.or (setOf [c]) := by
  unfold setOf
  simp only [List.foldl_cons, List.foldl_nil]
  unfold W4.put
  split <;> simp [W4.or, W4.zero]
theorem reads_ext3 {P : Program} {h : Heap} {k : Value → Prop} {a b c d e : Value} : Reads P (Instr.extract (.tuple #[a, b, c, d, e]) 3) h k = k d := reads_pure fun _ => by simp [Instr.extract]
theorem reads_ext4 {P : Program} {h : Heap} {k : Value → Prop} {a b c d e : Value} : Reads P (Instr.extract (.tuple #[a, b, c, d, e]) 4) h k = k e := reads_pure fun _ => by simp [Instr.extract]
theorem itemS_one {c : UInt8} {s : W4} {q : Nat} (h : itemS lang l p = .ok (true, c, s, q)) : s = setOf [c] := by
  unfold itemS at h
  split at h
  · cases h
  split at h
  · split at h
    · split at h <;> cases h
    · cases h
  split at h
  · split at h
    · cases h; rfl
    · cases h
  · cases h; rfl
def OwesRB (h : Heap) (lang : Nat) (m : Res (W4 × Nat)) (R : Value → Heap → Prop) : Prop :=
  match m with
  | .out => False
  | .bad code pos => ∀ h', Fm h.size h.size h h' → R (.tuple #[.agg W4.zero.vals.toArray, .int .i64 0, faultV code pos lang]) h'
  | .ok x => ∀ h', Fm h.size h.size h h' → R (.tuple #[.agg x.1.vals.toArray, .int .i64 x.2, faultV 0 0 0]) h'
theorem rbracket_spec (hb : IsBytes h bv l) (hbl : ∀ b o m c, bv = .slice (some ⟨b, o, none⟩) m c → b < h.size) (hlen : l.length ≤ 65536) (hp : p ≤ l.length) (hl : lang = 3 ∨ lang = 4) (hk : OwesRB h lang (bracketS lang l p) R) :
    CallsH Tryz.prog 64 #[bv, .int .i64 p, .int .i64 lang] h R E := by
  have hl2 : lang ≠ 2 := by omega
  have e2 : decide (lang = 2) = false := decide_eq_false hl2
  refine C64 ?_
  unfold S64
  refine alloc_rule Tryz.zero33 fun h1 a1 => alloc_rule Tryz.zero42 fun h2 a2 => ?_
  have s1 := a1.size
  have s2 := a2.size
  have f2 : Fm h.size h.size h h2 := (Fm.al a1 (Nat.le_refl _)).trans (Fm.al a2 (by omega))
  have by_ : ∀ {h'}, Fm h.size h.size h h' → IsBytes h' bv l := fun f => hb.frame fun b o k hv => f.same b (hbl b o _ k hv) (by have := hbl b o _ k hv; omega)
  refine Join1.intro (fun v h' => h' = h2 ∧ v = .bool false) ?_ ?_
  · rw [reads_lt, boolV_bool, show decide ((p : Int) < 0) = false from by simp, bcase_false, reads_blen (by_ f2) Tryz.underlying29, reads_gt, dec_nn_lt, boolV_bool, show decide (l.length < p) = false from by simp; omega, bcase_false]
    rcases hl with rfl | rfl
    · rw [reads_ne, boolV_bool, show (decide (((3 : Nat) : Int) = 2)) = false from rfl, Bool.not_false, bcase_true, reads_ne, boolV_bool, show (decide (((3 : Nat) : Int) = 3)) = true from rfl]
      exact ⟨rfl, rfl⟩
    · rw [reads_ne, boolV_bool, show (decide (((4 : Nat) : Int) = 2)) = false from rfl, Bool.not_false, bcase_true, reads_ne, boolV_bool, show (decide (((4 : Nat) : Int) = 3)) = false from rfl, Bool.not_false, bcase_true, reads_ne]
      exact ⟨rfl, rfl⟩
  rintro v h3 ⟨rfl, rfl⟩
  rw [boolV_bool, bcase_false, Tryz.bd33]
  refine alloc_rule Tryz.zero33 fun h7 a7 => ?_
  have s7 := a7.size
  refine putSet (s := W4.zero) a7.at_ rfl fun h8 u8 => ?_
  have s8 := u8.size
  have f8 : Fm h.size h.size h h8 := f2.trans ((Fm.al a7 (by omega)).trans (Fm.upd u8 (.inl (by omega))))
  have r6 : h8[h.size]? = some (.cells (Value.agg #[.int .u64 0, .int .u64 0, .int .u64 0, .int .u64 0]).cells 33 (0, 0)) := (u8.other _ (by omega)).trans ((a7.old _ (by omega)).trans ((a2.old _ (by omega)).trans a1.at_))
  have r8 : h8[h1.size]? = some (.cells (Value.agg #[.int .i64 0, .int .i64 0, .int .i64 0]).cells 42 (0, 0)) := (u8.other _ (by omega)).trans ((a7.old _ (by omega)).trans a2.at_)
  -- the answer goes into its places
  have fin : ∀ {h' : Heap} {s : W4} {x : Value} {c q g : Nat}, Fm h8.size h3.size h8 h' → (∀ h9, Fm h.size h.size h h9 → R (.tuple #[.agg s.vals.toArray, x, faultV c q g]) h9) →
      pStore Tryz.prog 33 (.pointer (some ⟨h.size, 0, none⟩)) (.agg s.vals.toArray) h' fun h5 => pStore Tryz.prog 42 (.pointer (some ⟨h1.size, 0, none⟩)) (faultV c q g) h5 fun h6 => pLoad Tryz.prog 33 (.pointer (some ⟨h.size, 0, none⟩)) h6 fun r7 => pLoad Tryz.prog 42 (.pointer (some ⟨h1.size, 0, none⟩)) h6 fun r8 => R (.tuple #[r7, x, r8]) h6 := by
    intro h' s x c q g f' hq
    have s' := f'.size
    refine putSet ((f'.same _ (by omega) (by omega)).trans r6) rfl fun h9 u9 => ?_
    have s9 := u9.size
    refine storeFull ((u9.other _ (by omega)).trans ((f'.same _ (by omega) (by omega)).trans r8)) (xs := #[.int .i64 c, .int .i64 q, .int .i64 g]) Tryz.size42 rfl flat3 fun h10 u10 => ?_
    refine getSet ((u10.other _ (by omega)).trans u9.same) ?_
    refine load_all u10.same Tryz.agg42 ?_
    exact hq h10 (f8.trans ((⟨f'.size, fun k k1 k2 => f'.same k (by omega) (by omega)⟩ : Fm h.size h.size h8 h').trans ((Fm.upd u9 (.inl (Nat.le_refl _))).trans (Fm.upd u10 (.inl (by omega))))))
  have oth : ∀ {h'}, Fm h8.size h3.size h8 h' → Fm h.size h.size h h' := fun f' => f8.trans ⟨f'.size, fun k k1 k2 => f'.same k (by omega) (by omega)⟩
  refine Join2.intro (fun v w h' => h' = h8 ∧ v = .int .i64 (if turnedS lang l p then p + 1 else p : Nat) ∧ w = .bool (turnedS lang l p)) ?_ ?_
  · have et : turnedS lang l p = isB l p 94 := by unfold turnedS; rw [e2, Bool.and_false, Bool.or_false]
    rw [et, reads_blen (by_ f8) Tryz.underlying29, reads_lt, dec_nn_lt, boolV_bool]
    refine bcase_of (fun hc => ?_) (fun hc => ?_)
    · have hlt : p < l.length := of_decide_eq_true hc
      refine idx_load (by_ f8) Tryz.underlying29 Tryz.size5 Tryz.agg5 hlt ?_
      have e94 : decide ((l[p].toNat : Int) = 94) = isB l p 94 := by unfold isB; rw [List.getElem?_eq_getElem hlt]; exact (dec_u8_eq _ 94).trans (decide_eq_decide.2 (by simp))
      rw [reads_eq, e94, boolV_bool]
      refine bcase_of (fun h94 => ?_) (fun h94 => ?_)
      · rw [reads_add, wrap_n1 _ (by omega), h94]
        exact ⟨rfl, rfl, rfl, rfl, rfl, rfl, rfl, rfl⟩
      · rw [reads_eq, show (2 : Int) = ((2 : Nat) : Int) from rfl, dec_nn_eq, e2, boolV_bool, bcase_false, h94]
        exact ⟨rfl, rfl, rfl⟩
    · have hn : isB l p 94 = false := by unfold isB; rw [List.getElem?_eq_none (by have := of_decide_eq_false hc; omega)]; rfl
      rw [hn]
      exact ⟨rfl, rfl, rfl, rfl, rfl, rfl, rfl, rfl, rfl, rfl, rfl, rfl⟩
  rintro v w h9 ⟨rfl, rfl, rfl⟩
  have hq0 : (if turnedS lang l p then p + 1 else p) ≤ l.length := by
    split
    · rename_i ht
      unfold turnedS at ht
      simp only [Bool.or_eq_true, Bool.and_eq_true] at ht
      rcases ht with e | e
      · have := isB_lt e; omega
      · have := isB_lt e.1; omega
    · exact hp
  unfold bracketS at hk
  generalize turnedS lang l p = td at *
  generalize hfin : readL lang l (l.length + 1) true W4.zero (if td then p + 1 else p) = F at hk
  generalize (if td then p + 1 else p) = q0 at *
  refine Loop2.fuel (fun k a c h' => ∃ (first : Bool) (s : W4) (q : Nat), a = .int .i64 q ∧ c = .bool first ∧ q ≤ l.length ∧ s.ok ∧ Fm h9.size h3.size h9 h' ∧ At h' h3.size s ∧ readL lang l k first s q = F ∧ l.length < k + q)
    (n := l.length + 1) ⟨true, W4.zero, q0, rfl, rfl, hq0, W4.zero_ok, Fm.refl .., u8.same, hfin, by omega⟩ fun k a c h10 hi => ?_
  obtain ⟨first, s, q, rfl, rfl, hq, os, f10, a10, hF, hfu⟩ := hi
  have s10 := f10.size
  obtain ⟨k, rfl⟩ : ∃ k', k = k' + 1 := ⟨k - 1, by omega⟩
  unfold readL at hF
  -- an error
  have err : ∀ {h' : Heap} {c g : Nat} {K : Prop}, F = .bad c g → Fm h9.size h3.size h9 h' → CallsH Tryz.prog 34 #[.int .i64 c, .int .i64 g, .int .i64 lang] h' (fun t78 h11 =>
      pStore Tryz.prog 33 (.pointer (some ⟨h.size, 0, none⟩)) (.agg #[.int .u64 0, .int .u64 0, .int .u64 0, .int .u64 0]) h11 fun h12 => pStore Tryz.prog 42 (.pointer (some ⟨h1.size, 0, none⟩)) t78 h12 fun h13 => pLoad Tryz.prog 33 (.pointer (some ⟨h.size, 0, none⟩)) h13 fun r16 => pLoad Tryz.prog 42 (.pointer (some ⟨h1.size, 0, none⟩)) h13 fun r17 => R (.tuple #[r16, (.int .i64 0), r17]) h13) E := by
    intro h' c g K e f'
    have s' := f'.size
    rw [e] at hk
    refine rfault_spec fun h11 f11 => ?_
    exact fin (s := W4.zero) (f'.trans (Fm.lift f11 (by omega) (by omega))) hk
  have by10 := by_ (oth f10)
  rw [reads_blen by10 Tryz.underlying29, reads_ge, dec_nn_le, boolV_bool]
  refine bcase_of (fun hc => ?_) (fun hc => ?_)
  · have hc := of_decide_eq_true hc
    rw [if_pos hc] at hF
    rw [Tryz.bd33, reads_blen by10 Tryz.underlying29]
    exact err (c := 8) (K := True) hF.symm f10
  have hc := of_decide_eq_false hc
  have hlt : q < l.length := by omega
  rw [if_neg hc] at hF
  refine Join1.intro (fun v h' => h' = h10 ∧ v = .bool (!first && isB l q 93)) ?_ ?_
  · refine idx_load by10 Tryz.underlying29 Tryz.size5 Tryz.agg5 hlt ?_
    have e93 : decide ((l[q].toNat : Int) = 93) = isB l q 93 := by unfold isB; rw [List.getElem?_eq_getElem hlt]; exact (dec_u8_eq _ 93).trans (decide_eq_decide.2 (by simp))
    rw [reads_eq, e93, boolV_bool]
    refine bcase_of (fun h93 => ?_) (fun h93 => ⟨rfl, by rw [h93]; simp⟩)
    rw [reads_not]
    exact ⟨rfl, by rw [h93]; simp⟩
  rintro v h14 ⟨rfl, rfl⟩
  rw [boolV_bool]
  refine bcase_of (fun hend => ?_) (fun hend => ?_)
  · rw [if_pos hend] at hF
    subst hF
    refine Join0.intro (fun h' => Fm h9.size h3.size h9 h' ∧ At h' h3.size (if td then s.not else s)) ?_ ?_
    · rw [boolV_bool]
      refine bcase_of (fun ht => ?_) (fun ht => ?_)
      · refine getSet a10 (rnot_spec os fun h15 f15 => ?_)
        have s15 := f15.size
        refine putSet ((f15.same _ (by have := at_lt a10; omega) (by have := at_lt a10; omega)).trans a10) rfl fun h16 u16 => ?_
        rw [ht]
        exact ⟨f10.trans ((Fm.lift f15 (by omega) (by omega)).trans (Fm.upd u16 (.inr rfl))), u16.same⟩
      · rw [ht]
        exact ⟨f10, a10⟩
    rintro h17 ⟨f17, a17⟩
    refine getSet a17 ?_
    rw [reads_add, wrap_n1 _ (by omega), Tryz.bd42]
    exact fin (c := 0) (q := 0) (g := 0) f17 fun h9 f9 => hk h9 f9
  rw [if_neg (by rw [hend]; simp)] at hF
  have lt3 := at_lt a10
  refine ritem_spec by10 (fun b o m c e => by have := hbl b o m c e; omega) hlen hlt hl2 ?_
  cases hm : itemS lang l q with
  | out => exact (itemS_out hm).elim
  | bad code pos =>
    have hcode := (itemS_bad hlt hm).1
    rw [hm] at hF
    intro h20 s' f20
    have s20 := f20.size
    rw [reads_ext0, reads_ext1, reads_ext2, reads_ext3, reads_ext4]
    refine alloc_rule Tryz.zero33 fun h21 a21 => ?_
    have s21 := a21.size
    refine putSet (s := s') a21.at_ rfl fun h22 u22 => ?_
    rw [reads_ne, boolV_bool]
    refine bcase_of (fun _ => ?_) (fun h0 => by simp at h0; omega)
    rw [Tryz.bd33]
    exact err (c := code) (g := pos) (K := True) hF.symm (f10.trans ((Fm.lift f20 (by omega) (by omega)).trans ((Fm.al a21 (by omega)).trans (Fm.upd u22 (.inl (by omega))))))
  | ok x =>
    have hle := itemS_le hlt hm
    have hok := itemS_ok hm
    rw [hm] at hF
    simp only at hF
    obtain ⟨one, c0, st, q1⟩ := x
    simp only at hle hok
    have hc0 := c0.toNat_lt
    intro h20 f20
    have s20 := f20.size
    rw [reads_ext0, reads_ext1, reads_ext2, reads_ext3, reads_ext4]
    refine alloc_rule Tryz.zero33 fun h21 a21 => ?_
    have s21 := a21.size
    refine putSet (s := if one then W4.zero else st) a21.at_ rfl fun h22 u22 => ?_
    have s22 := u22.size
    have f22 : Fm h9.size h3.size h9 h22 := f10.trans ((Fm.lift f20 (by omega) (by omega)).trans ((Fm.al a21 (by omega)).trans (Fm.upd u22 (.inl (by omega)))))
    have a22 : At h22 h3.size s := (u22.other _ (by omega)).trans ((a21.old _ (by omega)).trans ((f20.same _ lt3 (by omega)).trans a10))
    have by22 := by_ (oth f22)
    rw [reads_ne, boolV_bool, show (!decide ((0 : Int) = 0)) = false from rfl, bcase_false, reads_lt, boolV_bool]
    -- the set has grown
    have grown : ∀ {h' : Heap} {t : W4} {q2 : Nat}, rangedS lang l q (one, c0, st, q1) = .ok (t, q2) → Fm h9.size h3.size h9 h' → At h' h3.size (s.or t) → ∃ j, j < k + 1 ∧ ∃ (first : Bool) (s : W4) (q : Nat), Value.int .i64 (q2 : Nat) = .int .i64 q ∧ Value.bool false = .bool first ∧ q ≤ l.length ∧ s.ok ∧ Fm h9.size h3.size h9 h' ∧ At h' h3.size s ∧ readL lang l j first s q = F ∧ l.length < j + q := by
      intro h' t q2 hr f' a'
      have h4 := rangedS_le (x := (one, c0, st, q1)) hle.2 hr
      have h5 := rangedS_ok (x := (one, c0, st, q1)) hok hr
      rw [hr] at hF
      simp only at hF h4 h5
      rw [union2] at hF
      exact ⟨k, by omega, false, s.or t, q2, rfl, rfl, h4.2, W4.or_ok os h5, f', a', hF, by omega⟩
    cases one with
    | false =>
      simp only [Bool.false_eq_true, if_false]
      rw [show decide ((-1 : Int) < 0) = true from rfl, bcase_true]
      refine getSet a22 (getSet u22.same (ror_spec os hok fun h26 f26 => ?_))
      have s26 := f26.size
      refine putSet ((f26.same _ (by omega) (by omega)).trans a22) rfl fun h27 u27 => ?_
      exact grown (by unfold rangedS; rfl) (f22.trans ((Fm.lift f26 (by omega) (by omega)).trans (Fm.upd u27 (.inr rfl)))) u27.same
    | true =>
      simp only [if_true]
      refine bcase_of (fun h0 => by have := of_decide_eq_true h0; omega) (fun _ => ?_)
      have at1 : ∀ (j : Nat) (hj : j < l.length) (y : UInt8), decide ((l[j].toNat : Int) = y.toNat) = isB l j y := fun j hj y => by unfold isB; rw [List.getElem?_eq_getElem hj]; exact (dec_u8_eq _ y).trans (decide_eq_decide.2 (by simp))
      refine Join1.intro (fun v h' => h' = h22 ∧ v = .bool (!true || !isB l q1 45 || isB l (q1 + 1) 93 || decide (l.length ≤ q1 + 1))) ?_ ?_
      · rw [reads_add, wrap_n1 _ (by omega), reads_blen by22 Tryz.underlying29, reads_ge, dec_nn_le, boolV_bool]
        refine bcase_of (fun hg => ⟨rfl, by rw [hg]; simp⟩) (fun hg => ?_)
        have hg' := of_decide_eq_false hg
        refine idx_load by22 Tryz.underlying29 Tryz.size5 Tryz.agg5 (show q1 < l.length from by omega) ?_
        rw [reads_ne, show (45 : Int) = (((45 : UInt8).toNat : Nat) : Int) from rfl, at1 q1 (by omega) 45, boolV_bool]
        refine bcase_of (fun h45 => ⟨rfl, by rw [h45]; simp⟩) (fun h45 => ?_)
        rw [reads_add, wrap_n1 _ (by omega)]
        refine idx_load by22 Tryz.underlying29 Tryz.size5 Tryz.agg5 (show q1 + 1 < l.length from by omega) ?_
        rw [reads_eq, show (93 : Int) = (((93 : UInt8).toNat : Nat) : Int) from rfl, at1 (q1 + 1) (by omega) 93]
        exact ⟨rfl, by rw [h45, hg]; simp⟩
      rintro v h28 ⟨rfl, rfl⟩
      rw [boolV_bool]
      refine bcase_of (fun hsgl => ?_) (fun hrng => ?_)
      · refine getSet a22 ?_
        rw [reads_conv_int Tryz.underlying3 Tryz.underlying5, wrap_u8 (by omega)]
        refine add_spec os fun h29 f29 => ?_
        have s29 := f29.size
        refine putSet ((f29.same _ (by omega) (by omega)).trans a22) rfl fun h30 u30 => ?_
        have hst : st = setOf [c0] := itemS_one hm
        refine grown (t := st) (q2 := q1) (by unfold rangedS; exact if_pos hsgl) (f22.trans ((Fm.lift f29 (by omega) (by omega)).trans (Fm.upd u30 (.inr rfl)))) ?_
        rw [hst, ← put_or]
        exact u30.same
      have hlt1 : q1 + 1 < l.length := by
        simp only [Bool.or_eq_false_iff] at hrng
        have := of_decide_eq_false hrng.2
        omega
      have hrS : rangedS lang l q (true, c0, st, q1) = (match itemS lang l (q1 + 1) with
          | .ok y => if !y.1 then .bad 8 (q1 + 1) else if y.2.1 < c0 then .bad 7 q else .ok (rangeW c0.toNat y.2.1.toNat, y.2.2.2)
          | .bad a b => .bad a b
          | .out => .out) := by
        unfold rangedS
        exact if_neg (by rw [hrng]; simp)
      rw [reads_add, wrap_n1 _ (by omega)]
      refine ritem_spec by22 (fun b o m c e => by have := hbl b o m c e; omega) hlen hlt1 hl2 ?_
      cases hm2 : itemS lang l (q1 + 1) with
      | out => exact (itemS_out hm2).elim
      | bad code pos =>
        have hcode := (itemS_bad hlt1 hm2).1
        rw [hm2] at hrS
        rw [hrS] at hF
        intro h31 s' f31
        have s31 := f31.size
        rw [reads_ext0, reads_ext1, reads_ext2, reads_ext3, reads_ext4]
        refine alloc_rule Tryz.zero33 fun h32 a32 => ?_
        have s32 := a32.size
        refine putSet (s := s') a32.at_ rfl fun h33 u33 => ?_
        rw [reads_ne, boolV_bool]
        refine bcase_of (fun _ => ?_) (fun h0 => by simp at h0; omega)
        rw [Tryz.bd33]
        exact err (c := code) (g := pos) (K := True) hF.symm (f22.trans ((Fm.lift f31 (by omega) (by omega)).trans ((Fm.al a32 (by omega)).trans (Fm.upd u33 (.inl (by omega))))))
      | ok y =>
        rw [hm2] at hrS
        obtain ⟨one2, d0, st2, q2⟩ := y
        simp only at hrS
        have hd0 := d0.toNat_lt
        intro h31 f31
        have s31 := f31.size
        rw [reads_ext0, reads_ext1, reads_ext2, reads_ext3, reads_ext4]
        refine alloc_rule Tryz.zero33 fun h32 a32 => ?_
        have s32 := a32.size
        refine putSet (s := if one2 then W4.zero else st2) a32.at_ rfl fun h33 u33 => ?_
        have s33 := u33.size
        have f33 : Fm h9.size h3.size h9 h33 := f22.trans ((Fm.lift f31 (by omega) (by omega)).trans ((Fm.al a32 (by omega)).trans (Fm.upd u33 (.inl (by omega)))))
        have a33 : At h33 h3.size s := (u33.other _ (by omega)).trans ((a32.old _ (by omega)).trans ((f31.same _ (by omega) (by omega)).trans a22))
        rw [reads_ne, boolV_bool, show (!decide ((0 : Int) = 0)) = false from rfl, bcase_false, reads_lt, boolV_bool]
        cases one2 with
        | false =>
          simp only [Bool.not_false, if_true] at hrS
          rw [hrS] at hF
          simp only [Bool.false_eq_true, if_false]
          rw [show decide ((-1 : Int) < 0) = true from rfl, bcase_true, Tryz.bd33, reads_add, wrap_n1 _ (by omega)]
          exact err (c := 8) (g := q1 + 1) (K := True) hF.symm f33
        | true =>
          simp only [Bool.not_true, Bool.false_eq_true, if_false] at hrS
          simp only [if_true]
          refine bcase_of (fun h0 => by have := of_decide_eq_true h0; omega) (fun _ => ?_)
          rw [reads_gt, dec_nn_lt, boolV_bool]
          refine bcase_of (fun hg => ?_) (fun hg => ?_)
          · have hg : d0 < c0 := of_decide_eq_true hg
            rw [if_pos hg] at hrS
            rw [hrS] at hF
            rw [Tryz.bd33]
            exact err (c := 7) (g := q) (K := True) hF.symm f33
          · have hg : ¬ d0 < c0 := of_decide_eq_false hg
            rw [if_neg hg] at hrS
            refine ⟨fun h' => At h' h3.size s, a33, getSetS (fun h' hh => hh) ?_⟩
            refine readsS_lift (v := .int .u8 c0.toNat) (fun h k => by rw [reads_conv_int Tryz.underlying3 Tryz.underlying5, wrap_u8 (by omega)]) ?_
            refine readsS_lift (v := .int .u8 d0.toNat) (fun h k => by rw [reads_conv_int Tryz.underlying3 Tryz.underlying5, wrap_u8 (by omega)]) ?_
            refine ⟨rrange_spec fun h43 f43 => ?_, trivial⟩
            have s43 := f43.size
            have a43 := (f43.same _ (by omega) (by omega)).trans a33
            refine ⟨a43, ror_spec os (okR _ _) fun h44 f44 => ?_, trivial⟩
            have s44 := f44.size
            refine ⟨trivial, putSet ((f44.same _ (by omega) (by omega)).trans a43) rfl fun h45 u45 => ⟨trivial, ?_⟩, trivial⟩
            exact grown hrS (f33.trans ((Fm.lift f43 (by omega) (by omega)).trans ((Fm.lift f44 (by omega) (by omega)).trans (Fm.upd u45 (.inr rfl))))) u45.same
end Rt
end Go.Proofs

set_option maxRecDepth 100000
namespace Go.Proofs
open Go.Vcg
namespace Rt
attribute [local congr] Reads.congr ReadsS.congr pLoad.congr pLoadS.congr pStore.congr Runs.congr CallsH.congr bcase.congr boolV.congr Stable.congr pAlloc.congr
variable {n : Nat} {h : Heap} {r : Nat} {bv : Value} {l : List UInt8} {p : Nat} {ext : Bool} {gr code pos lang : Nat} {R : Value → Heap → Prop} {E : List PanicEntry → Heap → Prop}

/-! ### The reference's reader -/
def RdrR (h : Heap) (r : Nat) (bv : Value) (p : Nat) (ext : Bool) (gr code pos lang : Nat) : Prop :=
  h[r]? = some (.cells #[bv, .int .i64 p, .bool ext, .int .i64 gr, .int .i64 code, .int .i64 pos, .int .i64 lang] 71 (0, 0))
/-- its state; code = 0: nothing is wrong yet -/
structure Kx (n : Nat) (h : Heap) (r : Nat) (bv : Value) (l : List UInt8) (p : Nat) (ext : Bool) (gr code pos lang : Nat) : Prop where
  rd : RdrR h r bv p ext gr code pos lang
  by_ : IsBytes h bv l
  ne : ∀ b o m c, bv = .slice (some ⟨b, o, none⟩) m c → b ≠ r ∧ b < n
  le : p ≤ l.length
  len : l.length ≤ 256
  nle : n ≤ h.size
  g9 : gr ≤ 9
theorem Kx.on {h' : Heap} {p' gr' code' pos' lang' : Nat} (c : Kx n h r bv l p ext gr code pos lang) (f : Fm n r h h') (hr : RdrR h' r bv p' ext gr' code' pos' lang') (hp : p' ≤ l.length) (hg : gr' ≤ 9) : Kx n h' r bv l p' ext gr' code' pos' lang' :=
  ⟨hr, c.by_.frame fun b o k hv => f.same b (c.ne b o _ k hv).2 (c.ne b o _ k hv).1, c.ne, hp, c.len, Nat.le_trans c.nle f.size, hg⟩
theorem Kx.still {h' : Heap} (c : Kx n h r bv l p ext gr code pos lang) (f : Fm n r h h') (hr : h'[r]? = h[r]?) : Kx n h' r bv l p ext gr code pos lang :=
  c.on f (hr.trans c.rd) c.le c.g9
theorem Kx.rlt (c : Kx n h r bv l p ext gr code pos lang) : r < h.size := at_lt c.rd
theorem Kx.al {h' : Heap} {o : Obj} (c : Kx n h r bv l p ext gr code pos lang) (a : Al h h' o) : Kx n h' r bv l p ext gr code pos lang :=
  c.still (Fm.al a c.nle) (a.old _ c.rlt)
theorem Kx.upd {h' : Heap} {o : Obj} {b : Nat} (c : Kx n h r bv l p ext gr code pos lang) (u : Upd h h' b o) (hb : n ≤ b) (hr : b ≠ r) : Kx n h' r bv l p ext gr code pos lang :=
  c.still (Fm.upd u (.inl hb)) (u.other _ (Ne.symm hr))
theorem Kx.ld0 {k : Value → Prop} (c : Kx n h r bv l p ext gr code pos lang) : pLoad Tryz.prog 29 (.pointer (some ⟨r, 0, none⟩)) h k = k bv := pLoad_one Tryz.agg29 (by rw [hcell_of c.rd]; rfl)
theorem Kx.ld1 {k : Value → Prop} (c : Kx n h r bv l p ext gr code pos lang) : pLoad Tryz.prog 3 (.pointer (some ⟨r, 1, none⟩)) h k = k (.int .i64 p) := pLoad_one Tryz.agg3 (by rw [hcell_of c.rd]; rfl)
theorem Kx.ld2 {k : Value → Prop} (c : Kx n h r bv l p ext gr code pos lang) : pLoad Tryz.prog 4 (.pointer (some ⟨r, 2, none⟩)) h k = k (.bool ext) := pLoad_one Tryz.agg4 (by rw [hcell_of c.rd]; rfl)
theorem Kx.ld3 {k : Value → Prop} (c : Kx n h r bv l p ext gr code pos lang) : pLoad Tryz.prog 3 (.pointer (some ⟨r, 3, none⟩)) h k = k (.int .i64 gr) := pLoad_one Tryz.agg3 (by rw [hcell_of c.rd]; rfl)
theorem Kx.ld4 {k : Value → Prop} (c : Kx n h r bv l p ext gr code pos lang) : pLoad Tryz.prog 3 (.pointer (some ⟨r, 4, none⟩)) h k = k (.int .i64 code) := pLoad_one Tryz.agg3 (by rw [hcell_of c.rd]; rfl)
/-- the place is set -/
theorem Kx.goto {K : Heap → Prop} {q : Nat} (c : Kx n h r bv l p ext gr code pos lang) (hq : q ≤ l.length) (hk : ∀ h', Fm h.size r h h' → h'.size = h.size → (∀ k, k ≠ r → h'[k]? = h[k]?) → Kx n h' r bv l q ext gr code pos lang → K h') : pStore Tryz.prog 3 (.pointer (some ⟨r, 1, none⟩)) (.int .i64 q) h K := by
  refine store1 c.rd Tryz.size3 rfl (by simp) fun h' u => ?_
  exact hk h' (Fm.upd u (.inr rfl)) u.size u.other (c.on (Fm.upd u (.inr rfl)) u.same hq c.g9)
theorem rlang_spec (c : Kx n h r bv l p ext gr code pos lang) (hk : R (.int .i64 (langN ext : Nat)) h) : CallsH Tryz.prog 35 #[ptr r] h R E := by
  refine C35 ?_
  unfold S35
  rw [reads_nil, Tryz.fa71_2, addr_add, Nat.zero_add, c.ld2, boolV_bool]
  cases ext
  · exact hk
  · exact hk
theorem ris_spec {s : List UInt8} (c : Kx n h r bv l p ext gr code pos lang) (hs : s.length ≤ 65536) (hk : R (.bool (isM l s p)) h) : CallsH Tryz.prog 36 #[ptr r, str s] h R E := by
  have hl := c.len
  have hp := c.le
  refine C36 ?_
  unfold S36
  rw [reads_nil, Tryz.fa71_0, addr_add, c.ld0, reads_blen c.by_ Tryz.underlying29, reads_nil, Tryz.fa71_1, addr_add, Nat.zero_add, c.ld1, reads_sub, wrapN _ (l.length - p) (by omega) (by omega), reads_slen Tryz.underlying9, reads_ge, dec_nn_le, boolV_bool]
  refine bcase_of (fun hc => ?_) (fun hc => ?_)
  · have hc := of_decide_eq_true hc
    rw [reads_nil, Tryz.fa71_0, addr_add, c.ld0, reads_nil, Tryz.fa71_1, addr_add, Nat.zero_add, c.ld1, reads_nil, Tryz.fa71_1, addr_add, Nat.zero_add, c.ld1, reads_slen Tryz.underlying9, reads_add, wrap_nn _ _ (by omega)]
    refine reads_bslice c.by_ Tryz.underlying29 Tryz.size5 (by omega) (by omega) fun u hu => ?_
    rw [reads_bstring hu Tryz.underlying29 Tryz.underlying5 Tryz.underlying9, reads_seq]
    rw [← pre_drop (by omega)]
    exact hk
  · have hc := of_decide_eq_false hc
    rw [isM, pre_long (by omega) hp] at hk
    exact hk
theorem rbad_spec (c : Kx n h r bv l p ext gr code pos lang) (hk : R (.bool (!decide (code = 0))) h) : CallsH Tryz.prog 40 #[ptr r] h R E := by
  refine C40 ?_
  unfold S40
  rw [reads_nil, Tryz.fa71_4, addr_add, Nat.zero_add, Tryz.fa42_0, addr_add, Nat.add_zero, c.ld4, reads_ne, show decide ((code : Int) = 0) = decide (code = 0) from decide_eq_decide.2 (by omega)]
  exact hk
theorem rend_spec (c : Kx n h r bv l p ext gr code pos lang) (hk : R (.bool (decide (l.length ≤ p))) h) : CallsH Tryz.prog 41 #[ptr r] h R E := by
  refine C41 ?_
  unfold S41
  rw [reads_nil, Tryz.fa71_1, addr_add, Nat.zero_add, c.ld1, reads_nil, Tryz.fa71_0, addr_add, c.ld0, reads_blen c.by_ Tryz.underlying29, reads_ge, dec_nn_le]
  exact hk
def signM (ext : Bool) (c : UInt8) : List UInt8 := if ext then [c] else [92, c]
theorem rsign_spec {x : UInt8} (c : Kx n h r bv l p ext gr code pos lang) (hk : R (str (signM ext x)) h) : CallsH Tryz.prog 85 #[ptr r, str [x]] h R E := by
  refine C85 ?_
  unfold S85
  rw [reads_nil, Tryz.fa71_2, addr_add, Nat.zero_add, c.ld2, boolV_bool]
  cases ext
  · rw [bcase_false, reads_sadd (by simp)]
    exact hk
  · exact hk
theorem rshut_spec (c : Kx n h r bv l p ext gr code pos lang) (hk : R (.bool (decide (l.length ≤ p) || isM l (signM ext 41) p)) h) : CallsH Tryz.prog 61 #[ptr r] h R E := by
  refine C61 ?_
  unfold S61
  refine rend_spec c ?_
  rw [boolV_bool]
  refine bcase_of (fun he => ?_) (fun he => ?_)
  · rw [he] at hk
    exact hk
  · rw [he] at hk
    exact rsign_spec c (ris_spec c (by unfold signM; split <;> simp) hk)
theorem storeRow {P : Program} {T t : TypeId} {h : Heap} {b off : Nat} {cs xs : Array Value} {K : Heap → Prop} (hb : h[b]? = some (.cells cs t (0, 0))) (hT : sizeT P T = some xs.size) (hs : off + xs.size ≤ cs.size)
    (hx : ∀ v ∈ xs.toList, flat v = true) (hk : ∀ h', Upd h h' b (.cells (cs.toList.take off ++ xs.toList ++ cs.toList.drop (off + xs.size)).toArray t (0, 0)) → K h') : pStore P T (.pointer (some ⟨b, off, none⟩)) (.agg xs) h K := by
  unfold pStore
  refine ⟨hT, ?_⟩
  obtain ⟨h', e1, e2⟩ := hputN_upd (t := t) xs.toList 0 h cs off hb (by simp; omega) hx
  simp only [Value.cells] at *
  rw [e1]
  refine hk h' ?_
  simpa using e2
/-- an error: the first one stays -/
theorem rfail_spec {e q : Nat} (c : Kx n h r bv l p ext gr 0 0 0) (he : e ≠ 0) (hk : ∀ h', Fm h.size r h h' → Kx n h' r bv l p ext gr e q (langN ext) → R (.agg (reL 0 .zero 0 0 0 (.slice none 0 0)).toArray) h') : CallsH Tryz.prog 37 #[ptr r, .int .i64 e, .int .i64 q] h R E := by
  have hr := c.rlt
  have hn := c.nle
  refine C37 ?_
  unfold S37
  refine alloc_rule Tryz.zero36 fun h1 a1 => ?_
  have s1 := a1.size
  have c1 := c.al a1
  rw [reads_nil, Tryz.fa71_4, addr_add, Nat.zero_add, Tryz.fa42_0, addr_add, Nat.add_zero, c1.ld4, reads_eq, boolV_bool]
  refine bcase_of (fun _ => ?_) (fun h0 => by simp at h0)
  refine rlang_spec c1 ?_
  refine rfault_spec fun h3 f3 => ?_
  have s3 := f3.size
  have c3 : Kx n h3 r bv l p ext gr 0 0 0 := c1.still ⟨s3, fun k k1 k2 => f3.same k (by omega) (by omega)⟩ (f3.same _ (by omega) (by omega))
  rw [reads_nil, Tryz.fa71_4, addr_add, Nat.zero_add]
  refine storeRow c3.rd (xs := #[.int .i64 e, .int .i64 q, .int .i64 (langN ext : Nat)]) Tryz.size42 (by simp) flat3 fun h4 u4 => ?_
  have s4 := u4.size
  have c4 : Kx n h4 r bv l p ext gr e q (langN ext) := c3.on (Fm.upd u4 (.inr rfl)) u4.same c.le c.g9
  rw [Tryz.bd36]
  have r4 := (u4.other h.size (by omega)).trans ((f3.same h.size (by omega) (by omega)).trans a1.at_)
  refine ret_full r4 (xs := (reL 0 .zero 0 0 0 (.slice none 0 0)).toArray) Tryz.size36 Tryz.agg36 rfl (flat_reL rfl) fun h5 u5 => ?_
  refine hk h5 ((Fm.al a1 (Nat.le_refl _)).trans (⟨s3, fun k k1 k2 => f3.same k (by omega) (by omega)⟩ : Fm h.size r h1 h3) |>.trans ((Fm.upd u4 (.inr rfl)).trans (Fm.upd u5 (.inl (Nat.le_refl _))))) (c4.upd u5 (by omega) (by omega))
end Rt
end Go.Proofs
