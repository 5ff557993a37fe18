/- A part of the proofs over this seat: LawP. -/
import Derived.Test.YthlncmkeccgfeaaGreatDoorRefQ
import Derived.Test.YthlncmkeccgfeaaGreatDoorFrmP
import Derived.Test.YthlncmkeccgfeaaGreatDoorRef1
set_option linter.unusedVariables false
set_option linter.unusedSimpArgs false
set_option maxRecDepth 100000
namespace Go.Proofs
open Go.Vcg
namespace Rt
attribute [local congr] Reads.congr ReadsS.congr pLoad.congr pLoadS.congr pStore.congr Runs.congr CallsH.congr bcase.congr boolV.congr Stable.congr pAlloc.congr
variable {S : Glb} {n : Nat} {h : Heap} {r : Nat} {bv : Value} {l : List UInt8} {p : Nat} {ext : Bool} {gr code pos lang : Nat} {R : Value → Heap → Prop} {E : List PanicEntry → Heap → Prop}

/-! ### What both tell of a text -/
def tellM (l : List UInt8) (ext : Bool) : Res (T × Nat × Nat) := if 256 < l.length then .bad 2 0 else wholeM (fuel l) l ext
theorem parse_told (gl : Gl S h) (hn : S.N ≤ h.size) (hb : IsBytes h bv l) (hbl : ∀ b o m c, bv = .slice (some ⟨b, o, none⟩) m c → b < h.size)
    (hok : ∀ t p gr h' b vs, tellM l ext = .ok (t, p, gr) → Good t → gr ≤ 9 → szT t ≤ 768 → Fm h.size h.size h h' → h.size ≤ b → h'[b]? = some (.cells (vs ++ [.int .i64 gr, .bool ext]).toArray 66 (0, 0)) → IsRe h' (fun x => h.size ≤ x ∧ x ≠ b) t vs → R (.tuple #[ptr b, .nilIface]) h')
    (hbad : ∀ e w h' x, tellM l ext = .bad e w → 1 ≤ e → e ≤ 10 → w ≤ l.length → Fm h.size h.size h h' → IsErr S h' h.size (langN ext) e w x → R (.tuple #[.pointer none, x]) h') : CallsH Tryz.prog 11 #[bv, .bool ext] h R E := by
  refine parse_spec gl hn hb hbl (fun h' b vs t p gr hl hm hg _ _ hgr hs f hb' h66 ht => ?_) (fun h' x e w h1 h2 hw hlong hm h0 f he => ?_)
  · exact hok t p gr h' b vs (by unfold tellM; rw [if_neg (by omega)]; exact hm) hg hgr hs f hb' h66 ht
  · refine hbad e w h' x ?_ h1 h2 hw f he
    unfold tellM
    by_cases hl : 256 < l.length
    · rw [if_pos hl, hlong.2 hl, h0 hl]
    · rw [if_neg hl]
      exact hm (by omega)
theorem rparse_told (hb : IsBytes h bv l) (hbl : ∀ b o m c, bv = .slice (some ⟨b, o, none⟩) m c → b < h.size)
    (hok : ∀ t p gr h' vs, tellM l ext = .ok (t, p, gr) → Fm h.size h.size h h' → IsRe h' (fun b => h.size ≤ b) t vs → R (.tuple #[.agg vs.toArray, .int .i64 gr, faultV 0 0 0]) h')
    (hbad : ∀ e w h', tellM l ext = .bad e w → Fm h.size h.size h h' → R (.tuple #[.agg (reL 0 .zero 0 0 0 (.slice none 0 0)).toArray, .int .i64 0, faultV e w (langN ext)]) h') : CallsH Tryz.prog 16 #[bv, .bool ext] h R E := by
  have hP : l.length ≤ 256 → parseR (if ext then fuelR l else fuel l) l ext = wholeM (fuel l) l ext ∧ wholeM (fuel l) l ext ≠ .out := by
    intro hl
    have hend := whole_end (l := l) (ext := ext)
    have hne : wholeM (fuel l) l ext ≠ .out := fun e => by rw [e] at hend; exact hend
    refine ⟨?_, hne⟩
    cases ext with
    | true => exact parseR_whole hne
    | false => exact parseR_basic
  have hT : l.length ≤ 256 → tellM l ext = wholeM (fuel l) l ext := fun hl => by unfold tellM; rw [if_neg (by omega)]
  have hbig : l.length ≤ 256 ∨ 256 < l.length := by omega
  rcases hbig with hl | hl
  · obtain ⟨e1, e2⟩ := hP hl
    refine rparse_spec (f := if ext then fuelR l else fuel l) (by unfold fuelR fuel; split <;> omega) hb hbl (fun _ => by rw [e1]; exact e2) (fun h' => by omega) (fun _ e w h' hm f => ?_) (fun _ t q g h' vs hm f ht => ?_)
    · exact hbad e w h' (by rw [hT hl, ← e1]; exact hm) f
    · exact hok t q g h' vs (by rw [hT hl, ← e1]; exact hm) f ht
  · refine rparse_spec (f := 0) (by omega) hb hbl (fun h' => by omega) (fun _ h' f => ?_) (fun h' => by omega) (fun h' => by omega)
    exact hbad 2 0 h' (by unfold tellM; rw [if_pos hl]) f
theorem reads_neqFault {c : Bool} {h : Heap} {k : Value → Prop} {x y z : Int} : Reads Tryz.prog (binS .neq 42 c (.agg #[.int .i64 x, .int .i64 y, .int .i64 z]) (.agg #[.int .i64 x, .int .i64 y, .int .i64 z])) h k = k (.bool false) := reads_pure fun w => by
  simp only [binS, Sem.run_bind, guard42, Result.andThen_ok]
  rw [run_neq_struct, eqFault]
  simp
theorem flatZ : ∀ v ∈ (reL 0 .zero 0 0 0 (.slice none 0 0)).toArray.toList, flat v = true := by
  simpa using flat_reL (k := 0) (s := .zero) (mn := 0) (mx := 0) (g := 0) (kv := .slice none 0 0) rfl

theorem told_kind {t : T} {q g : Nat} (h : tellM l ext = .ok (t, q, g)) : kT t := by
  unfold tellM at h
  split at h
  · cases h
  · exact whole_kind h
theorem kT_kind {t : T} (h : kT t) : kindOf t ≠ 0 := by
  cases t
  simp only [kT] at h
  simp only [kindOf]
  omega
mutual
theorem sameT_self : ∀ (t : T), sameT t t = true
  | .node k s mn mx g ts => by
    unfold sameT
    simp [sameL_self ts]
theorem sameL_self : ∀ (ts : List T), sameL ts ts = true
  | [] => by unfold sameL; rfl
  | t :: ts => by
    unfold sameL
    simp [sameT_self t, sameL_self ts]
end
end Rt
end Go.Proofs

set_option maxRecDepth 100000
namespace Go.Proofs
open Go.Vcg
namespace Rt
attribute [local congr] Reads.congr ReadsS.congr pLoad.congr pLoadS.congr pStore.congr Runs.congr CallsH.congr bcase.congr boolV.congr Stable.congr pAlloc.congr
variable {S : Glb} {n : Nat} {h : Heap} {r : Nat} {bv : Value} {l : List UInt8} {p : Nat} {ext : Bool} {gr code pos lang : Nat} {R : Value → Heap → Prop} {E : List PanicEntry → Heap → Prop}

theorem isExt_spec {b : Nat} {vs : List Value} (hl : vs.length = 9) (hb : h[b]? = some (.cells (vs ++ [Value.int .i64 gr, Value.bool ext]).toArray 66 (0, 0))) (hk : R (.bool ext) h) : CallsH Tryz.prog 23 #[ptr b] h R E := by
  refine C23 ?_
  unfold S23
  rw [Tryz.neq24_s, boolV_bool, bcase_true, reads_nil, Tryz.fa66_2, addr_add, Nat.zero_add, pLoad_one (v := .bool ext) Tryz.agg4 (by
    rw [hcell_of hb]
    rw [List.getElem?_toArray, List.getElem?_append_right (by omega), hl]
    rfl)]
  exact hk
theorem parses_spec (gl : Gl S h) (hn : S.N ≤ h.size) (hpw : Pw h) (h24 : 24 ≤ h.size) (hb : IsBytes h bv l) (hbl : ∀ b o m c, bv = .slice (some ⟨b, o, none⟩) m c → b < h.size) (hk : ∀ h', Fm h.size h.size h h' → R (.bool true) h') : CallsH Tryz.prog 8 #[bv, .bool ext] h R E := by
  refine C8 ?_
  unfold S8
  have by_ : ∀ {h'}, Fm h.size h.size h h' → IsBytes h' bv l := fun f => hb.frame fun b o k hv => f.same b (hbl b o _ k hv) (by have := hbl b o _ k hv; omega)
  refine parse_told gl hn hb hbl (fun t p gr h1 b vs hm hg hgr hsz f1 hb1 h66 ht => ?_) (fun e w h1 x hm he1 he2 hw f1 hx => ?_)
  · have s1 := f1.size
    have lb := at_lt h66
    rw [reads_ext0, reads_ext1]
    refine rparse_told (by_ f1) (fun b o m c e => by have := hbl b o m c e; omega) (fun t' p' gr' h2 vs2 hm' f2 ht2 => ?_) (fun e w h2 hm' f2 => by rw [hm] at hm'; cases hm')
    rw [hm] at hm'
    cases hm'
    have s2 := f2.size
    rw [reads_ext0, reads_ext1, reads_ext2]
    refine alloc_rule Tryz.zero36 fun h3 a3 => alloc_rule Tryz.zero42 fun h4 a4 => ?_
    have s3 := a3.size
    have s4 := a4.size
    refine storeFull ((a4.old _ (by omega)).trans a3.at_) (xs := vs2.toArray) (by rw [Tryz.size36]; simp [ht2.len]) (by simp [ht2.len, Value.cells]) (by simpa using ht2.flat) fun h5 u5 => ?_
    have s5 := u5.size
    refine storeFull ((u5.other _ (by omega)).trans a4.at_) (xs := #[.int .i64 (0 : Nat), .int .i64 (0 : Nat), .int .i64 (0 : Nat)]) Tryz.size42 rfl flat3 fun h6 u6 => ?_
    have s6 := u6.size
    have o6 : ∀ k, k < h2.size → h6[k]? = h2[k]? := fun k hk => (u6.other _ (by omega)).trans ((u5.other _ (by omega)).trans ((a4.old _ (by omega)).trans (a3.old _ hk)))
    have o16 : ∀ k, k < h1.size → h6[k]? = h1[k]? := fun k hk => (o6 k (by omega)).trans (f2.same k hk (by omega))
    have f6 : Fm h.size h.size h h6 := f1.trans ⟨by omega, fun k k1 k2 => o16 k (by omega)⟩
    have t7 : h6[h2.size]? = some (.cells vs2.toArray 36 (0, 0)) := (u6.other _ (by omega)).trans u5.same
    have t9 := u6.same
    refine Join1.intro (fun v h' => v = .bool false ∧ Fm h6.size h6.size h6 h') ?_ ?_
    · refine ⟨fun h' => h'[h3.size]? = some (.cells #[.int .i64 (0 : Nat), .int .i64 (0 : Nat), .int .i64 (0 : Nat)] 42 (0, 0)), t9, ?_⟩
      refine pLoadS_all (cs := #[.int .i64 (0 : Nat), .int .i64 (0 : Nat), .int .i64 (0 : Nat)]) Tryz.agg42 (fun h' hh => hh) ?_
      refine ⟨tell_nil fun h7 f7 => ?_, trivial⟩
      have t9' := (f7.same _ (by omega) (by omega)).trans t9
      refine ⟨t9', ?_⟩
      rw [show faultV 0 0 0 = .agg #[.int .i64 (0 : Nat), .int .i64 (0 : Nat), .int .i64 (0 : Nat)] from rfl, reads_neqFault, boolV_bool, bcase_false, Tryz.fa42_0, addr_add, pLoad_one (v := .int .i64 (0 : Nat)) Tryz.agg3 (by rw [hcell_of t9']; rfl), reads_ne]
      exact ⟨rfl, f7⟩
    rintro v h8 ⟨rfl, f8⟩
    have s8 := f8.size
    have o8 : ∀ k, k < h1.size → h8[k]? = h1[k]? := fun k hk => (f8.same k (by omega) (by omega)).trans (o16 k hk)
    have g8 : Fm h.size h.size h h8 := f6.trans (Fm.lift f8 (by omega) (by omega))
    have b8 := (o8 b lb).trans h66
    have ht8 : IsRe h8 (fun x => h.size ≤ x ∧ x ≠ b) t vs := ht.frame fun x hx hlt => ⟨hx, o8 x hlt⟩
    have t7' := (f8.same _ (by omega) (by omega)).trans t7
    have hlenT : (textM t).length ≤ 1000000 := by have := textM_short hg.2.2; omega
    rw [boolV_bool, bcase_false, Tryz.neq24_s]
    refine ⟨fun h' => h'[h2.size]? = some (.cells vs2.toArray 36 (0, 0)), t7', (show boolV (.bool true) _ from ?_)⟩
    rw [boolV_bool, bcase_true]
    refine pLoadS_all (cs := vs2.toArray) (by rw [Tryz.agg36]; simp [ht2.len]) (fun h' hh => hh) ?_
    refine ⟨?_, trivial⟩
    refine text_spec b8 ht8 (kT_kind (told_kind hm)) hg.2.2 hlenT fun h11 f11 => ?_
    have s11 := f11.size
    refine ⟨(f11.same _ (by omega) (by omega)).trans t7', ?_, trivial⟩
    have g11 := g8.trans (Fm.lift (n := h.size) (r := h.size) f11 (by omega) (by omega))
    refine rtext_spec _ (Nat.le_refl _) (by omega) hg.2.2 (told_kind hm) (hpw.fm g11 h24 h24) (by omega) (Q := fun x => x < h2.size) (ht2.frame fun x hx hlt => ⟨hlt, (f11.same x (by omega) (by omega)).trans ((f8.same x (by omega) (by omega)).trans (o6 x hlt))⟩) hlenT fun h12 f12 => ?_
    have s12 := f12.size
    have g12 := g11.trans (Fm.lift (n := h.size) (r := h.size) f12 (by omega) (by omega))
    refine ⟨trivial, ?_⟩
    rw [reads_seq, decide_eq_true rfl, boolV_bool, bcase_true]
    have b12 := (f12.same b (by omega) (by omega)).trans ((f11.same b (by omega) (by omega)).trans b8)
    refine ⟨?_, trivial⟩
    refine groups_spec ht.len b12 ⟨trivial, ?_⟩
    rw [reads_eq, decide_eq_true rfl, boolV_bool, bcase_true]
    refine ⟨?_, trivial⟩
    refine isExt_spec ht.len b12 ⟨trivial, ?_⟩
    rw [reads_eqB, decide_eq_true rfl, boolV_bool, bcase_true]
    refine ⟨?_, trivial⟩
    refine awake_spec (gl.fm g12 hn hn) (by omega) fun h15 f15 => ⟨trivial, ?_⟩
    exact hk h15 (g12.trans (Fm.lift f15 (by omega) (by omega)))
  · have s1 := f1.size
    rw [reads_ext0, reads_ext1]
    refine rparse_told (by_ f1) (fun b o m c e => by have := hbl b o m c e; omega) (fun t' p' gr' h2 vs2 hm' f2 ht2 => by rw [hm] at hm'; cases hm') (fun e' w' h2 hm' f2 => ?_)
    rw [hm] at hm'
    cases hm'
    have s2 := f2.size
    rw [reads_ext0, reads_ext1, reads_ext2]
    refine alloc_rule Tryz.zero36 fun h3 a3 => alloc_rule Tryz.zero42 fun h4 a4 => ?_
    have s3 := a3.size
    have s4 := a4.size
    refine storeFull ((a4.old _ (by omega)).trans a3.at_) (xs := (reL 0 .zero 0 0 0 (.slice none 0 0)).toArray) Tryz.size36 rfl flatZ fun h5 u5 => ?_
    have s5 := u5.size
    refine storeFull ((u5.other _ (by omega)).trans a4.at_) (xs := #[.int .i64 e, .int .i64 w, .int .i64 (langN ext : Nat)]) Tryz.size42 rfl flat3 fun h6 u6 => ?_
    have s6 := u6.size
    have o16 : ∀ k, k < h1.size → h6[k]? = h1[k]? := fun k hk => (u6.other _ (by omega)).trans ((u5.other _ (by omega)).trans ((a4.old _ (by omega)).trans ((a3.old _ (by omega)).trans (f2.same k hk (by omega)))))
    have f6 : Fm h.size h.size h h6 := f1.trans ⟨by omega, fun k k1 k2 => o16 k (by omega)⟩
    have hx6 : IsErr S h6 h.size (langN ext) e w x := hx.fm fun k hk _ => o16 k hk
    have t9 := u6.same
    refine Join1.intro (fun v h' => v = .bool true ∧ Fm h6.size h6.size h6 h') ?_ ?_
    · refine ⟨fun h' => h'[h3.size]? = some (.cells #[.int .i64 e, .int .i64 w, .int .i64 (langN ext : Nat)] 42 (0, 0)), t9, ?_⟩
      refine pLoadS_all (cs := #[.int .i64 e, .int .i64 w, .int .i64 (langN ext : Nat)]) Tryz.agg42 (fun h' hh => hh) ?_
      refine ⟨tell_spec (gl.fm f6 hn hn) (by omega) hx6 he1 (by omega) fun h7 f7 => ?_, trivial⟩
      have t9' := (f7.same _ (by omega) (by omega)).trans t9
      refine ⟨t9', ?_⟩
      rw [show faultV e w (langN ext) = .agg #[.int .i64 e, .int .i64 w, .int .i64 (langN ext : Nat)] from rfl, reads_neqFault, boolV_bool, bcase_false, Tryz.fa42_0, addr_add, pLoad_one (v := .int .i64 e) Tryz.agg3 (by rw [hcell_of t9']; rfl), reads_ne]
      refine ⟨?_, f7⟩
      rw [decide_eq_false (by omega)]
      rfl
    rintro v h8 ⟨rfl, f8⟩
    have s8 := f8.size
    have g8 : Fm h.size h.size h h8 := f6.trans (Fm.lift f8 (by omega) (by omega))
    rw [boolV_bool, bcase_true]
    have t9' := (f8.same _ (by omega) (by omega)).trans t9
    refine ⟨fun h' => h'[h3.size]? = some (.cells #[.int .i64 e, .int .i64 w, .int .i64 (langN ext : Nat)] 42 (0, 0)), t9', ?_⟩
    refine pLoadS_all (cs := #[.int .i64 e, .int .i64 w, .int .i64 (langN ext : Nat)]) Tryz.agg42 (fun h' hh => hh) ?_
    refine ⟨tell_spec (gl.fm g8 hn hn) (by omega) (hx6.fm fun k hk _ => f8.same k hk (by omega)) he1 (by omega) fun h9 f9 => ?_, trivial⟩
    have s9 := f9.size
    refine ⟨(f9.same _ (by omega) (by omega)).trans t9', ?_⟩
    rw [show faultV e w (langN ext) = .agg #[.int .i64 e, .int .i64 w, .int .i64 (langN ext : Nat)] from rfl, reads_eqFault, boolV_bool, bcase_true, Tryz.eql24_n, boolV_bool, bcase_true]
    refine ⟨?_, trivial⟩
    have g9 := g8.trans (Fm.lift f9 (by omega) (by omega))
    refine awake_spec (gl.fm g9 hn hn) (by omega) fun h10 f10 => ⟨trivial, ?_⟩
    exact hk h10 (g9.trans (Fm.lift f10 (by omega) (by omega)))
end Rt
end Go.Proofs
