/- A part of the proofs over this seat: Law3. -/
import Derived.Test.YthlncmkeccgfeaaGreatDoorTxt3
set_option linter.unusedVariables false
set_option linter.unusedSimpArgs false
set_option maxRecDepth 100000
namespace Go.Proofs
open Go.Vcg
namespace Rt
attribute [local congr] Reads.congr ReadsS.congr pLoad.congr pLoadS.congr pStore.congr Runs.congr CallsH.congr bcase.congr boolV.congr Stable.congr pAlloc.congr
variable {n b : Nat} {h : Heap} {l : List UInt8} {gr : Nat} {ext : Bool} {R : Value → Heap → Prop} {E : List PanicEntry → Heap → Prop}

theorem quoteM_ge (ext : Bool) : ∀ (s : List UInt8), s.length ≤ (quoteM s ext).length
  | [] => by simp
  | c :: s => by
    have := quoteM_ge ext s
    obtain ⟨y, tl, e⟩ := qByte_ne ext c
    simp only [quoteM, List.flatMap_cons, List.length_append, List.length_cons, e] at *
    omega
theorem szL_singles : ∀ (s : List UInt8), szL (s.map single) = s.length
  | [] => rfl
  | c :: s => by simp only [List.map_cons, szL, szL_singles s, single, szT, List.length_cons]; omega
mutual
theorem sameT_refl : ∀ (t : T), sameT t t = true
  | .node k s mn mx g ts => by unfold sameT; simp [sameL_refl ts]
theorem sameL_refl : ∀ (ts : List T), sameL ts ts = true
  | [] => by unfold sameL; rfl
  | t :: ts => by unfold sameL; simp [sameT_refl t, sameL_refl ts]
end
theorem IsRe.single {h : Heap} {Q : Nat → Prop} {c : UInt8} : IsRe h Q (single c) (reL 1 (setOf [c]) 0 0 0 (.slice none 0 0)) := IsRe.leaf
theorem back_spec {S : Glb} {s : List UInt8} (gl : Gl S h) (hn : S.N ≤ h.size) (hs : s.length ≤ 1048576) (hk : ∀ h', Fm h.size h.size h h' → R (.bool true) h') : CallsH Tryz.prog 3 #[str s, .bool ext] h R E := by
  refine C3 ?_
  unfold S3
  refine quote_spec (by omega) fun h1 f1 => ?_
  have s1 := f1.size
  have g1 := gl.fm f1 hn hn
  refine Join0.intro (fun h' => h' = h1 ∧ s ≠ [] ∧ (quoteM s ext).length ≤ 256) ?_ ?_
  · rw [reads_seq, boolV_bool]
    refine bcase_of (fun hc => ?_) (fun hc => ?_)
    · exact awake_spec g1 (by omega) fun h2 f2 => hk h2 (f1.trans (Fm.lift f2 (by omega) (by omega)))
    · rw [reads_slen Tryz.underlying9, reads_gt, boolV_bool]
      refine bcase_of (fun hl => ?_) (fun hl => ?_)
      · exact awake_spec g1 (by omega) fun h2 f2 => hk h2 (f1.trans (Fm.lift f2 (by omega) (by omega)))
      · exact ⟨rfl, of_decide_eq_false hc, by have := of_decide_eq_false hl; omega⟩
  rintro h1' ⟨rfl, hne, hql⟩
  have hsl : s.length ≤ 256 := Nat.le_trans (quoteM_ge ext s) hql
  have hpos : 1 ≤ s.length := by have := List.length_pos_iff.2 hne; omega
  refine runs_sbytes fun v h2 c f2 by2 hv hlt2 => ?_
  have s2 := f2.size
  have f02 := f1.trans (Fm.lift (n := h.size) (r := h.size) f2 (by omega) (by omega))
  refine parse_ok (k := s.length + 10) (by omega) (gl.fm f02 hn hn) (by omega) by2 (fun b o m c' e => by rw [hv] at e; injection e with e; injection e with e; injection e with e; omega) hql (whole_quoted hne (Nat.le_refl _)) fun h3 b vs f3 hb3 h3b ht3 => ?_
  have s3 := f3.size
  have f03 := f02.trans (Fm.lift (n := h.size) (r := h.size) f3 (by omega) (by omega))
  rw [reads_ext0, reads_ext1]
  refine Join0.intro (fun h' => h' = h3) ?_ ?_
  · rw [Tryz.neq26_n, boolV_bool, bcase_false, Tryz.eql24_s, boolV_bool, bcase_false]
    refine groups_spec ht3.len h3b ?_
    rw [reads_ne, boolV_bool]
    exact bcase_of (fun hc => by simp at hc) (fun _ => rfl)
  rintro h3' rfl
  have hsz : szT (joinM 4 (s.map single)) ≤ 1000000 := by
    have := szL_singles s
    match s, hne with
    | [c], _ => simp [joinM, single, szT, szL]
    | c :: d :: r, _ => simp only [List.map_cons, joinM, szT] at this ⊢; omega
  refine tree_spec h3b ht3 hsz fun h4 ws f4 ht4 => ?_
  have s4 := f4.size
  have hwl := ht4.len
  have f04 := f03.trans (Fm.lift (n := h.size) (r := h.size) f4 (by omega) (by omega))
  refine alloc_rule Tryz.zero36 fun h5 a5 => ?_
  have s5 := a5.size
  refine storeFull a5.at_ (xs := ws.toArray) (by rw [Tryz.size36]; simp only [List.size_toArray, hwl]) (by simp only [List.size_toArray, hwl]; rfl) (by simpa using ht4.flat) fun h6 hu6 => ?_
  have s6 := hu6.size
  have f46 : Fm h4.size h4.size h4 h6 := (Fm.al a5 (Nat.le_refl _)).trans (Fm.upd hu6 (.inl (Nat.le_refl _)))
  have f06 := f04.trans (Fm.lift (n := h.size) (r := h.size) f46 (by omega) (by omega))
  have ht6 : IsRe h6 (fun x => x < h4.size) (joinM 4 (s.map single)) ws := ht4.frame fun x _ hx => ⟨hx, f46.same x hx (by omega)⟩
  have b6 := hu6.same
  have fin : ∀ {h'}, Fm h6.size h6.size h6 h' → CallsH Tryz.prog 10 #[] h' (fun t h'' => R t h'') E := by
    intro h' f'
    have := f'.size
    have f := f06.trans (Fm.lift (n := h.size) (r := h.size) f' (by omega) (by omega))
    exact awake_spec (gl.fm f hn hn) (by omega) fun h'' f'' => hk h'' (f.trans (Fm.lift f'' (by omega) (by omega)))
  rw [reads_slen Tryz.underlying9, reads_eq, show (1 : Int) = ((1 : Nat) : Int) from rfl, dec_nn_eq, boolV_bool]
  refine bcase_of (fun hc => ?_) (fun hc => ?_)
  · have h1l : s.length = 1 := of_decide_eq_true hc
    obtain ⟨c, rfl⟩ : ∃ c, s = [c] := List.length_eq_one_iff.1 h1l
    refine ⟨fun h' => h'[h4.size]? = some (.cells ws.toArray 36 (0, 0)), b6, ?_⟩
    refine pLoadS_all (by rw [Tryz.agg36]; simp only [List.size_toArray, hwl]) (fun h' hh => hh) ?_
    refine readsS_lift (v := .int .u8 c.toNat) (fun h k => reads_sindex (i := 0) Tryz.underlying9 (by simp)) ?_
    refine ⟨one_spec fun h7 f7 => ?_, trivial⟩
    have s7 := f7.size
    refine ⟨(f7.same h4.size (by omega) (by omega)).trans b6, ?_⟩
    refine ⟨?_, trivial⟩
    refine same_spec (Q' := fun _ => False) (u := single c) _ (Nat.le_refl _) hsz (ht6.frame (Q' := fun _ => True) fun x hx hlt => ⟨trivial, f7.same x hlt (by omega)⟩) IsRe.single fun h8 f8 => ?_
    have s8 := f8.size
    refine ⟨trivial, ?_, trivial⟩
    rw [show sameT (joinM 4 ([c].map single)) (single c) = true from sameT_refl _, boolV_bool, bcase_true]
    have := fin (h' := h8) (f7.trans (Fm.lift f8 (by omega) (by omega)))
    exact this.mono (fun v h' hh => ⟨trivial, hh⟩) fun _ _ hh => hh
  have hnl : s.length ≠ 1 := of_decide_eq_false hc
  have hj : joinM 4 (s.map single) = .node 4 .zero 0 0 0 (s.map single) := by
    match s, hne, hnl with
    | c :: d :: r, _, _ => rfl
  rw [hj] at ht6
  obtain ⟨q, cc, rfl, hkids⟩ := kidsOf ht6
  rw [List.length_map] at hkids b6
  have c6 : h6[h4.size]? = some (.cells (reL 4 .zero 0 0 0 (.slice q s.length cc)).toArray 36 (0, 0)) := b6
  have ld : ∀ {h'} {k : Value → Prop}, h'[h4.size]? = some (.cells (reL 4 .zero 0 0 0 (.slice q s.length cc)).toArray 36 (0, 0)) → pLoad Tryz.prog 34 (.pointer (some ⟨h4.size, 5 + 3, none⟩)) h' k = k (.slice q s.length cc) := fun e => pLoad_one Tryz.agg34 (by rw [hcell_of e]; rfl)
  refine Join0.intro (fun h' => h' = h6) ?_ ?_
  · rw [Tryz.fa36_0, addr_add, pLoad_one (v := .int .i64 4) Tryz.agg3 (by rw [hcell_of c6]; rfl), reads_ne, boolV_bool]
    refine bcase_of (fun hc => by simp at hc) (fun _ => ?_)
    rw [Tryz.fa36_5, addr_add, Nat.zero_add, pLoad_one (v := .slice q s.length cc) Tryz.agg34 (by rw [hcell_of c6]; rfl), reads_rlen Tryz.underlying34, reads_slen Tryz.underlying9, reads_ne, boolV_bool]
    refine bcase_of (fun hc => by simp at hc) (fun _ => rfl)
  rintro h6' rfl
  rw [Tryz.fa36_5, addr_add, Nat.zero_add, pLoad_one (v := .slice q s.length cc) Tryz.agg34 (by rw [hcell_of c6]; rfl), reads_rlen Tryz.underlying34]
  obtain ⟨bk, cur, rfl, hcur, hbk, hrow⟩ := hkids (by simpa using hne)
  refine Loop1.fuel (fun k a h' => ∃ i : Nat, i ≤ s.length ∧ k = s.length - i ∧ a = .int .i64 i ∧ Fm h6'.size h6'.size h6' h') (n := s.length) ⟨0, by omega, by simp, rfl, Fm.refl ..⟩ fun k a h7 hi => ?_
  obtain ⟨i, hi, rfl, rfl, f7⟩ := hi
  have s7 := f7.size
  have c7 := (f7.same h4.size (by omega) (by omega)).trans c6
  rw [reads_lt, dec_nn_lt, boolV_bool]
  refine bcase_of (fun hc => ?_) (fun hc => ?_)
  · have hlt : i < s.length := of_decide_eq_true hc
    have hbk7 := (f7.same bk (at_lt hbk) (by have := at_lt hbk; omega)).trans hbk
    have hbs : h7[h4.size]? = some (.cells (reL 4 .zero 0 0 0 (.slice (some ⟨bk, 0, none⟩) s.length cc)).toArray 36 (0, 0)) ∧ h7[bk]? = some (.cells cur 36 (0, 0)) := ⟨c7, hbk7⟩
    have hltm : i < (s.map single).length := by simpa using hlt
    have htk : IsRe h6' (fun x => x < h4.size) (s.map single)[i] ((cur.toList.drop (i * 9)).take 9) := by
      have := hrow.get hltm
      rw [show s.length * 9 = (s.map single).length * 9 by simp] at this
      rwa [take_drop9 hltm] at this
    have hgi : (s.map single)[i] = single s[i] := by simp
    rw [hgi] at htk
    refine ⟨fun h' => h'[h4.size]? = some (.cells (reL 4 .zero 0 0 0 (.slice (some ⟨bk, 0, none⟩) s.length cc)).toArray 36 (0, 0)) ∧ h'[bk]? = some (.cells cur 36 (0, 0)), hbs, ?_⟩
    refine readsS_lift (fun h k => Tryz.fa36_5) ?_
    rw [addr_add, Nat.zero_add]
    refine pLoadS_one Tryz.agg34 (v := .slice (some ⟨bk, 0, none⟩) s.length cc) (fun h' hh => by rw [hcell_of hh.1]; rfl) ?_
    refine readsS_lift (fun h k => reads_idxRow Tryz.underlying34 Tryz.size36 hlt) ?_
    rw [addr_add, Nat.zero_add]
    refine pLoadS_row (t := 36) Tryz.agg36 (Nat.le_trans (by omega : i * 9 + 9 ≤ s.length * 9) (by simpa using hcur)) (fun h' hh => hh.2) ?_
    refine readsS_lift (v := .int .u8 s[i].toNat) (fun h k => reads_sindex (i := i) Tryz.underlying9 hlt) ?_
    refine ⟨one_spec fun h8 f8 => ?_, trivial⟩
    have s8 := f8.size
    refine ⟨⟨(f8.same _ (by omega) (by omega)).trans hbs.1, (f8.same _ (at_lt hbk7) (by have := at_lt hbk7; omega)).trans hbs.2⟩, ?_, trivial⟩
    have f68 : Fm h6'.size h6'.size h6' h8 := f7.trans (Fm.lift f8 (by omega) (by omega))
    refine same_spec (Q' := fun _ => False) (u := single s[i]) _ (Nat.le_refl _) (by simp [single, szT, szL]) (htk.frame (Q' := fun _ => True) fun x hx hlt => ⟨trivial, f68.same x hlt (by omega)⟩) IsRe.single fun h9 f9 => ?_
    have s9 := f9.size
    refine ⟨trivial, ?_⟩
    rw [sameT_refl, reads_not, boolV_bool]
    refine bcase_of (fun hc => by simp at hc) (fun _ => ?_)
    rw [reads_add, show ((1 : Nat) : Int) = 1 from rfl, wrap_n1 _ (by omega)]
    exact ⟨s.length - (i + 1), by omega, i + 1, by omega, rfl, rfl, f68.trans (Fm.lift f9 (by omega) (by omega))⟩
  · exact fin f7
end Rt
end Go.Proofs
