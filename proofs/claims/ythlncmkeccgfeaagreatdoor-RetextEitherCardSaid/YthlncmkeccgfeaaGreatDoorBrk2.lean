/- A part of the proofs over this seat: Brk2. -/
import Derived.Test.YthlncmkeccgfeaaGreatDoorBrk
set_option linter.unusedVariables false
set_option linter.unusedSimpArgs false
set_option maxRecDepth 100000
namespace Go.Proofs
open Go.Vcg Go.Extern
namespace Rt
attribute [local congr] Reads.congr ReadsS.congr pLoad.congr pLoadS.congr pStore.congr Runs.congr CallsH.congr bcase.congr boolV.congr Stable.congr pAlloc.congr
variable {S : Glb} {n : Nat} {h : Heap} {r : Nat} {bv : Value} {l : List UInt8} {p lang : Nat} {R : Value → Heap → Prop} {E : List PanicEntry → Heap → Prop}

def OwesS (S : Glb) (n : Nat) (h : Heap) (r : Nat) (bv : Value) (l : List UInt8) (lang : Nat) (m : Res (W4 × Nat)) (R : Value → Heap → Prop) : Prop :=
  match m with
  | .out => False
  | .bad code pos => ∀ h' s e, Fm h.size r h h' → IsErr S h' h.size lang code pos e → R (.tuple #[.agg (W4.vals s).toArray, e]) h'
  | .ok x => ∀ h', Fm h.size r h h' → Bx S n h' r bv l x.2 lang → R (.tuple #[.agg x.1.vals.toArray, .nilIface]) h'
theorem ranged_spec {one : Bool} {b : UInt8} {s : W4} {frm : Nat} (c : Bx S n h r bv l p lang) (hk : OwesS S n h r bv l lang (rangedS lang l frm (one, b, s, p)) R) :
    CallsH Tryz.prog 137 #[ptr r, .agg (itemV one b s frm).toArray] h R E := by
  have hr := at_lt c.rd
  have hl := c.len
  have hpl := c.le
  refine C137 ?_
  unfold S137
  refine new_rule fun h1 a1 => ?_
  have s1 := a1.size
  have c1 := c.al a1
  refine alloc_rule Tryz.zero33 fun h2 a2 => ?_
  have s2 := a2.size
  have c2 := c1.al a2
  have f2 : Fm h.size r h h2 := (Fm.al a1 (Nat.le_refl _)).trans (Fm.al a2 (by omega))
  have it2 : h2[h.size]? = some (.cells (itemV one b s frm).toArray 187 (0, 0)) := (a2.old _ (by omega)).trans a1.at_
  have rt2 : h2[h1.size]? = some (.cells (Value.agg #[.int .u64 0, .int .u64 0, .int .u64 0, .int .u64 0]).cells 33 (0, 0)) := a2.at_
  have fin : ∀ {h8 : Heap} {t : W4} {e : Value}, h8[h1.size]? = h2[h1.size]? → (∀ h9, Upd h8 h9 h1.size (.cells t.vals.toArray 33 (0, 0)) → R (.tuple #[.agg t.vals.toArray, e]) h9) →
      pStore Tryz.prog 33 (.pointer (some ⟨h1.size, 0, none⟩)) (.agg t.vals.toArray) h8 fun h9 => pLoad Tryz.prog 33 (.pointer (some ⟨h1.size, 0, none⟩)) h9 fun r7 => R (.tuple #[r7, e]) h9 := by
    intro h8 t e r8 hq
    refine putSet (r8.trans rt2) rfl fun h9 u9 => ?_
    exact getSet u9.same (hq h9 u9)
  unfold rangedS at hk
  simp only at hk
  refine Join1.intro (fun v h' => h' = h2 ∧ v = .bool (!one || !isB l p 45 || isB l (p + 1) 93 || decide (l.length ≤ p + 1))) ?_ ?_
  · rw [Tryz.fa187_0, addr_add, pLoad_one (v := .bool one) Tryz.agg4 (by rw [hcell_of it2]; rfl), reads_not, boolV_bool]
    refine bcase_of (fun h1' => ?_) (fun h1' => ?_)
    · exact ⟨⟨⟨rfl, by rw [h1']; simp⟩, trivial⟩, trivial⟩
    refine ⟨?_, trivial⟩
    refine isB_spec (k := 0) (x := 45) c2 (by omega) ?_
    refine ⟨trivial, ?_⟩
    rw [Nat.add_zero, reads_not, boolV_bool]
    refine bcase_of (fun h2' => ?_) (fun h2' => ?_)
    · exact ⟨⟨rfl, by rw [h1', h2']; simp⟩, trivial⟩
    refine ⟨?_, trivial⟩
    refine isB_spec (k := 1) (x := 93) c2 (by omega) ?_
    refine ⟨trivial, ?_⟩
    rw [boolV_bool]
    refine bcase_of (fun h3' => ⟨rfl, by rw [h1', h2', h3']; simp⟩) (fun h3' => ?_)
    rw [reads_nil, Tryz.fa177_1, addr_add, Nat.zero_add, c2.ld1, reads_add, wrap_n1 _ (by omega), reads_nil, Tryz.fa177_0, addr_add, c2.ld0, reads_blen c2.by_ Tryz.underlying29, reads_ge, dec_nn_le]
    exact ⟨rfl, by rw [h1', h2', h3']; simp⟩
  rintro v h3 ⟨rfl, rfl⟩
  rw [boolV_bool]
  refine bcase_of (fun hc => ?_) (fun hc => ?_)
  · rw [if_pos hc] at hk
    rw [Tryz.fa187_2, addr_add, Nat.zero_add]
    refine load_row it2 Tryz.agg33 (by simp [itemV]) ?_
    have ev : (((itemV one b s frm).toArray.toList.drop 2).take 4).toArray = s.vals.toArray := rfl
    rw [ev]
    refine fin rfl fun h9 u9 => ?_
    exact hk h9 (f2.trans (Fm.upd u9 (.inl (by omega)))) (c2.upd u9 (by have := c.nle; omega) (by omega))
  · rw [if_neg (by rw [hc]; simp)] at hk
    have hc' := hc
    simp only [Bool.or_eq_false_iff] at hc'
    have hlt : p + 1 < l.length := by have := of_decide_eq_false hc'.2; omega
    rw [reads_nil, Tryz.fa177_1, addr_add, Nat.zero_add, c2.ld1, reads_add, wrap_n1 _ (by omega), reads_nil, Tryz.fa177_1, addr_add, Nat.zero_add]
    refine c2.goto (by omega) fun h4 f4 s4 c4 o4 => ?_
    refine item_spec8 c4 hlt ?_
    cases hm : itemS lang l (p + 1) with
    | out => rw [hm] at hk; exact hk.elim
    | bad code pos =>
      rw [hm] at hk
      intro h5 one' b' s' f' e f5 he
      have s5 := f5.size
      rw [reads_ext0, reads_ext1]
      refine alloc_rule Tryz.zero187 fun h6 a6 => ?_
      have s6 := a6.size
      refine storeFull a6.at_ (xs := (itemV one' b' s' f').toArray) Tryz.size187 rfl (itemV_flat _ _ _ _) fun h7 u7 => ?_
      have s7 := u7.size
      obtain ⟨ea, eb, _, _, rfl, _⟩ := id he
      rw [Tryz.neq26_s, boolV_bool, bcase_true, Tryz.fa187_2, addr_add, Nat.zero_add]
      have e47 : ∀ k, k < h4.size → k ≠ r → h7[k]? = h3[k]? := fun k hk hkr => by rw [u7.other _ (by omega), a6.old _ (by omega), f5.same _ hk hkr, o4 _ hkr]
      refine load_row ((e47 h.size (by omega) (by omega)).trans it2) Tryz.agg33 (by simp [itemV]) ?_
      have ev : (((itemV one b s frm).toArray.toList.drop 2).take 4).toArray = s.vals.toArray := rfl
      rw [ev]
      refine fin (e47 _ (by omega) (by omega)) fun h9 u9 => ?_
      have s9 := u9.size
      refine hk h9 s _ (f2.trans ((f4.less (by omega)).trans ((f5.less (by omega)).trans ((Fm.al a6 (by omega)).trans ((Fm.upd u7 (.inl (by omega))).trans (Fm.upd u9 (.inl (by omega)))))))) ?_
      exact (he.fm fun k k1 k2 => by rw [u9.other _ (by omega), u7.other _ (by omega), a6.old _ (by omega)]).less (by omega)
    | ok y =>
      rw [hm] at hk
      obtain ⟨one', b', s', q⟩ := y
      simp only at hk
      intro h5 f5 c5
      have s5 := f5.size
      simp only at c5
      rw [reads_ext0, reads_ext1]
      refine alloc_rule Tryz.zero187 fun h6 a6 => ?_
      have s6 := a6.size
      refine storeFull a6.at_ (xs := (itemV one' b' s' (p + 1)).toArray) Tryz.size187 rfl (itemV_flat _ _ _ _) fun h7 u7 => ?_
      have s7 := u7.size
      have hn := c.nle
      have c7 := (c5.al a6).upd u7 (by omega) (by have := at_lt c5.rd; omega)
      have e47 : ∀ k, k < h4.size → k ≠ r → h7[k]? = h3[k]? := fun k hk hkr => by rw [u7.other _ (by omega), a6.old _ (by omega), f5.same _ hk hkr, o4 _ hkr]
      have it7 := (e47 h.size (by omega) (by omega)).trans it2
      have rt7 := e47 h1.size (by omega) (by omega)
      have f7 : Fm h.size r h h7 := f2.trans ((f4.less (by omega)).trans ((f5.less (by omega)).trans ((Fm.al a6 (by omega)).trans (Fm.upd u7 (.inl (by omega))))))
      rw [Tryz.neq26_n, boolV_bool, bcase_false, Tryz.fa187_0, addr_add, pLoad_one (v := .bool one') Tryz.agg4 (by rw [hcell_of u7.same]; rfl), reads_not, boolV_bool]
      refine bcase_of (fun ho => ?_) (fun ho => ?_)
      · rw [if_pos ho] at hk
        refine ⟨fun h' => h'[h.size]? = some (.cells (itemV one b s frm).toArray 187 (0, 0)) ∧ h'[h5.size]? = some (.cells (itemV one' b' s' (p + 1)).toArray 187 (0, 0)), ⟨it7, u7.same⟩, ?_⟩
        refine readsS_lift (fun h k => Tryz.fa187_2) ?_
        rw [addr_add, Nat.zero_add]
        refine pLoadS_row (t := 187) Tryz.agg33 (by simp [itemV]) (fun h' hh => hh.1) ?_
        have ev : (((itemV one b s frm).toArray.toList.drop 2).take 4).toArray = s.vals.toArray := rfl
        rw [ev]
        refine readsS_lift (fun h k => Tryz.fa187_3) ?_
        rw [addr_add, Nat.zero_add]
        refine pLoadS_one Tryz.agg3 (v := .int .i64 (p + 1 : Nat)) (fun h' hh => by rw [hcell_of hh.2]; rfl) ?_
        refine ⟨failB_spec (code := 8) c7 (by omega) (by omega) fun h8 e f8 he => ?_, trivial⟩
        have s8 := f8.size
        refine ⟨⟨(f8.same _ (by omega) (by omega)).trans it7, (f8.same _ (by omega) (by omega)).trans u7.same⟩, ?_, trivial⟩
        refine pStore_mono (fun h' x => ⟨trivial, x⟩) ?_
        refine fin ((f8.same _ (by omega) (by omega)).trans rt7) fun h9 u9 => ?_
        refine hk h9 s _ (f7.trans ((Fm.lift f8 (by omega) (by omega)).trans (Fm.upd u9 (.inl (by omega))))) ?_
        exact (he.fm fun k k1 k2 => u9.other _ (by omega)).less (by omega)
      · rw [if_neg (by rw [ho]; simp)] at hk
        rw [Tryz.fa187_1, addr_add, Nat.zero_add, pLoad_one (v := .int .u8 b.toNat) Tryz.agg5 (by rw [hcell_of it7]; rfl), Tryz.fa187_1, addr_add, Nat.zero_add, pLoad_one (v := .int .u8 b'.toNat) Tryz.agg5 (by rw [hcell_of u7.same]; rfl), reads_gt, dec_nn_lt, boolV_bool]
        refine bcase_of (fun hg => ?_) (fun hg => ?_)
        · have hg : b' < b := of_decide_eq_true hg
          rw [if_pos hg] at hk
          refine ⟨fun h' => h'[h.size]? = some (.cells (itemV one b s frm).toArray 187 (0, 0)), it7, ?_⟩
          refine readsS_lift (fun h k => Tryz.fa187_2) ?_
          rw [addr_add, Nat.zero_add]
          refine pLoadS_row (t := 187) Tryz.agg33 (by simp [itemV]) (fun h' hh => hh) ?_
          have ev : (((itemV one b s frm).toArray.toList.drop 2).take 4).toArray = s.vals.toArray := rfl
          rw [ev]
          refine readsS_lift (fun h k => Tryz.fa187_3) ?_
          rw [addr_add, Nat.zero_add]
          refine pLoadS_one Tryz.agg3 (v := .int .i64 frm) (fun h' hh => by rw [hcell_of hh]; rfl) ?_
          refine ⟨failB_spec (code := 7) c7 (by omega) (by omega) fun h8 e f8 he => ?_, trivial⟩
          have s8 := f8.size
          refine ⟨(f8.same _ (by omega) (by omega)).trans it7, ?_, trivial⟩
          refine pStore_mono (fun h' x => ⟨trivial, x⟩) ?_
          refine fin ((f8.same _ (by omega) (by omega)).trans rt7) fun h9 u9 => ?_
          refine hk h9 s _ (f7.trans ((Fm.lift f8 (by omega) (by omega)).trans (Fm.upd u9 (.inl (by omega))))) ?_
          exact (he.fm fun k k1 k2 => u9.other _ (by omega)).less (by omega)
        · have hg : ¬ b' < b := of_decide_eq_false hg
          rw [if_neg hg] at hk
          rw [Tryz.fa187_1, addr_add, Nat.zero_add, pLoad_one (v := .int .u8 b.toNat) Tryz.agg5 (by rw [hcell_of it7]; rfl), Tryz.fa187_1, addr_add, Nat.zero_add, pLoad_one (v := .int .u8 b'.toNat) Tryz.agg5 (by rw [hcell_of u7.same]; rfl)]
          refine range_spec fun h8 f8 => ?_
          have s8 := f8.size
          refine fin ((f8.same _ (by omega) (by omega)).trans rt7) fun h9 u9 => ?_
          exact hk h9 (f7.trans ((Fm.lift f8 (by omega) (by omega)).trans (Fm.upd u9 (.inl (by omega))))) ((c7.still f8).upd u9 (by omega) (by omega))
end Rt
end Go.Proofs
