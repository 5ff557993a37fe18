/- A part of the proofs over this seat: Brk4. -/
import Derived.Test.YthlncmkeccgfeaaGreatDoorBrk3
set_option linter.unusedVariables false
set_option linter.unusedSimpArgs false
set_option maxRecDepth 100000
namespace Go.Proofs
open Go.Vcg Go.Extern
namespace Rt
attribute [local congr] Reads.congr ReadsS.congr pLoad.congr pLoadS.congr pStore.congr Runs.congr CallsH.congr bcase.congr boolV.congr Stable.congr pAlloc.congr
variable {S : Glb} {n : Nat} {h : Heap} {r : Nat} {bv : Value} {l : List UInt8} {p lang : Nat} {R : Value → Heap → Prop} {E : List PanicEntry → Heap → Prop}

theorem Fm.out {n r r' : Nat} {h h' : Heap} (f : Fm n r h h') (hr : n ≤ r) : Fm n r' h h' := ⟨f.size, fun k hk _ => f.same k hk (by omega)⟩
def OwesB (S : Glb) (h : Heap) (lang : Nat) (m : Res (W4 × Nat)) (R : Value → Heap → Prop) : Prop :=
  match m with
  | .out => False
  | .bad code pos => ∀ h' e, Fm h.size h.size h h' → IsErr S h' h.size lang code pos e → R (.tuple #[.agg W4.zero.vals.toArray, .int .i64 0, e]) h'
  | .ok x => ∀ h', Fm h.size h.size h h' → R (.tuple #[.agg x.1.vals.toArray, .int .i64 x.2, .nilIface]) h'
theorem set_bracket_spec (gl : Gl S h) (hn : S.N ≤ h.size) (hb : IsBytes h bv l) (hbl : ∀ b o m c, bv = .slice (some ⟨b, o, none⟩) m c → b < h.size) (hp : p ≤ l.length) (hlen : l.length ≤ 65536) (hl : lang = 2 ∨ lang = 3 ∨ lang = 4)
    (hk : OwesB S h lang (bracketS lang l p) R) : CallsH Tryz.prog 119 #[bv, .int .i64 p, .int .i64 lang] h R E := by
  obtain ⟨p0, n0, c0, hbv⟩ : ∃ p0 n0 c0, bv = .slice p0 n0 c0 := by
    rcases hb with ⟨e, _⟩ | ⟨b, o, c, e, _⟩
    · exact ⟨_, _, _, e⟩
    · exact ⟨_, _, _, e⟩
  refine C119 ?_
  unfold S119
  refine alloc_rule Tryz.zero33 fun h1 a1 => ?_
  have s1 := a1.size
  rw [hbv, Tryz.bd177_0_1_2, ← hbv]
  refine new_rule fun h2 a2 => ?_
  have s2 := a2.size
  have rt2 : h2[h.size]? = some (.cells (Value.agg #[.int .u64 0, .int .u64 0, .int .u64 0, .int .u64 0]).cells 33 (0, 0)) := (a2.old _ (by omega)).trans a1.at_
  have f2 : Fm h.size h.size h h2 := (Fm.al a1 (Nat.le_refl _)).trans (Fm.al a2 (by omega))
  have c2 : Bx S h.size h2 h1.size bv l p lang := ⟨a2.at_, hb.frame fun b o k hv => f2.same b (hbl b o _ k hv) (by have := hbl b o _ k hv; omega), fun b o m c hv => ⟨by have := hbl b o m c hv; omega, hbl b o m c hv⟩, hp, hlen, gl.fm f2 hn hn, by omega, hn, by omega⟩
  refine Join1.intro (fun v h' => h' = h2 ∧ v = .bool false) ?_ ?_
  · rw [reads_lt, boolV_bool, show decide ((p : Int) < 0) = false from by simp, bcase_false, reads_blen c2.by_ Tryz.underlying29, reads_gt, dec_nn_lt, boolV_bool, show decide (l.length < p) = false from by simp; omega, bcase_false]
    rcases hl with rfl | rfl | rfl
    · rw [reads_ne, boolV_bool, show (decide (((2 : Nat) : Int) = 2)) = true from rfl]
      exact ⟨rfl, rfl⟩
    · rw [reads_ne, boolV_bool, show (decide (((3 : Nat) : Int) = 2)) = false from rfl, Bool.not_false, bcase_true, reads_ne, boolV_bool, show (decide (((3 : Nat) : Int) = 3)) = true from rfl]
      exact ⟨rfl, rfl⟩
    · rw [reads_ne, boolV_bool, show (decide (((4 : Nat) : Int) = 2)) = false from rfl, Bool.not_false, bcase_true, reads_ne, boolV_bool, show (decide (((4 : Nat) : Int) = 3)) = false from rfl, Bool.not_false, bcase_true, reads_ne]
      exact ⟨rfl, rfl⟩
  rintro v h3 ⟨rfl, rfl⟩
  rw [boolV_bool, bcase_false]
  refine read_spec c2 ?_
  have fin : ∀ {h8 : Heap} {t : W4} {x e : Value}, (∃ cs, h8[h.size]? = some (.cells cs 33 (0, 0)) ∧ cs.size = 4) → (∀ h9, Upd h8 h9 h.size (.cells t.vals.toArray 33 (0, 0)) → R (.tuple #[.agg t.vals.toArray, x, e]) h9) →
      pStore Tryz.prog 33 (.pointer (some ⟨h.size, 0, none⟩)) (.agg t.vals.toArray) h8 fun h9 => pLoad Tryz.prog 33 (.pointer (some ⟨h.size, 0, none⟩)) h9 fun r7 => R (.tuple #[r7, x, e]) h9 := by
    intro h8 t x e ⟨cs, r8, z8⟩ hq
    refine putSet r8 z8 fun h9 u9 => ?_
    exact getSet u9.same (hq h9 u9)
  cases hm : bracketS lang l p with
  | out => rw [hm] at hk; exact hk.elim
  | bad code pos =>
    rw [hm] at hk
    intro h4 s e f4 he
    have s4 := f4.size
    rw [reads_ext0, reads_ext1]
    refine alloc_rule Tryz.zero33 fun h5 a5 => ?_
    have s5 := a5.size
    refine putSet (s := s) a5.at_ rfl fun h6 u6 => ?_
    have s6 := u6.size
    obtain ⟨ea, eb, _, _, rfl, _⟩ := id he
    rw [Tryz.neq26_s, boolV_bool, bcase_true, Tryz.bd33]
    refine fin (t := W4.zero) ⟨_, (u6.other _ (by omega)).trans ((a5.old _ (by omega)).trans ((f4.same _ (by omega) (by omega)).trans rt2)), rfl⟩ fun h7 u7 => ?_
    refine hk h7 _ (f2.trans ((Fm.out (f4.less (by omega)) (by omega)).trans ((Fm.al a5 (by omega)).trans ((Fm.upd u6 (.inl (by omega))).trans (Fm.upd u7 (.inl (by omega))))))) ?_
    exact (he.fm fun k k1 k2 => by rw [u7.other _ (by omega), u6.other _ (by omega), a5.old _ (by omega)]).less (by omega)
  | ok x =>
    rw [hm] at hk
    obtain ⟨t, q⟩ := x
    intro h4 f4 c4
    have s4 := f4.size
    simp only at c4
    rw [reads_ext0, reads_ext1]
    refine alloc_rule Tryz.zero33 fun h5 a5 => ?_
    have s5 := a5.size
    refine putSet (s := t) a5.at_ rfl fun h6 u6 => ?_
    have s6 := u6.size
    have c6 := (c4.al a5).upd u6 (by omega) (by omega)
    rw [Tryz.neq26_n, boolV_bool, bcase_false]
    refine ⟨fun h' => At h' h4.size t ∧ h'[h1.size]? = some (.cells #[bv, .int .i64 q, .int .i64 lang] 177 (0, 0)), ⟨u6.same, c6.rd⟩, ?_⟩
    refine getSetS (fun h' hh => hh.1) ?_
    refine readsS_lift (fun h k => reads_nil) ?_
    refine readsS_lift (fun h k => Tryz.fa177_1) ?_
    rw [addr_add, Nat.zero_add]
    refine pLoadS_one Tryz.agg3 (v := .int .i64 q) (fun h' hh => by rw [hcell_of hh.2]; rfl) ?_
    refine ⟨?_, trivial⟩
    have r6 : h6[h.size]? = some (.cells (Value.agg #[.int .u64 0, .int .u64 0, .int .u64 0, .int .u64 0]).cells 33 (0, 0)) := (u6.other _ (by omega)).trans ((a5.old _ (by omega)).trans ((f4.same _ (by omega) (by omega)).trans rt2))
    refine putSet r6 rfl fun h7 u7 => ?_
    refine ⟨⟨(u7.other _ (by omega)).trans u6.same, (u7.other _ (by omega)).trans c6.rd⟩, ?_⟩
    refine getSet u7.same ?_
    exact hk h7 (f2.trans ((Fm.out (f4.less (by omega)) (by omega)).trans ((Fm.al a5 (by omega)).trans ((Fm.upd u6 (.inl (by omega))).trans (Fm.upd u7 (.inl (by omega)))))))
end Rt
end Go.Proofs
