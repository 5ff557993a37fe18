/- A part of the proofs over this seat: LawL. -/
import Derived.Test.YthlncmkeccgfeaaGreatDoorRefQ
import Derived.Test.YthlncmkeccgfeaaGreatDoorFrmP
import Derived.Test.YthlncmkeccgfeaaGreatDoorRef1
set_option linter.unusedVariables false
set_option linter.unusedSimpArgs false
set_option maxRecDepth 100000
namespace Go.Proofs
open Go.Vcg
namespace Rt
attribute [local congr] Reads.congr ReadsS.congr pLoad.congr pLoadS.congr pStore.congr Runs.congr CallsH.congr bcase.congr boolV.congr Stable.congr pAlloc.congr
variable {S : Glb} {n : Nat} {h : Heap} {r : Nat} {bv : Value} {l : List UInt8} {p : Nat} {ext : Bool} {gr code pos lang : Nat} {R : Value → Heap → Prop} {E : List PanicEntry → Heap → Prop}

/-! ### What both tell of a text -/
def tellM (l : List UInt8) (ext : Bool) : Res (T × Nat × Nat) := if 256 < l.length then .bad 2 0 else wholeM (fuel l) l ext
theorem parse_told (gl : Gl S h) (hn : S.N ≤ h.size) (hb : IsBytes h bv l) (hbl : ∀ b o m c, bv = .slice (some ⟨b, o, none⟩) m c → b < h.size)
    (hok : ∀ t p gr h' b vs, tellM l ext = .ok (t, p, gr) → Good t → gr ≤ 9 → szT t ≤ 768 → Fm h.size h.size h h' → h.size ≤ b → h'[b]? = some (.cells (vs ++ [.int .i64 gr, .bool ext]).toArray 66 (0, 0)) → IsRe h' (fun x => h.size ≤ x ∧ x ≠ b) t vs → R (.tuple #[ptr b, .nilIface]) h')
    (hbad : ∀ e w h' x, tellM l ext = .bad e w → 1 ≤ e → e ≤ 10 → w ≤ l.length → Fm h.size h.size h h' → IsErr S h' h.size (langN ext) e w x → R (.tuple #[.pointer none, x]) h') : CallsH Tryz.prog 11 #[bv, .bool ext] h R E := by
  refine parse_spec gl hn hb hbl (fun h' b vs t p gr hl hm hg _ _ hgr hs f hb' h66 ht => ?_) (fun h' x e w h1 h2 hw hlong hm h0 f he => ?_)
  · exact hok t p gr h' b vs (by unfold tellM; rw [if_neg (by omega)]; exact hm) hg hgr hs f hb' h66 ht
  · refine hbad e w h' x ?_ h1 h2 hw f he
    unfold tellM
    by_cases hl : 256 < l.length
    · rw [if_pos hl, hlong.2 hl, h0 hl]
    · rw [if_neg hl]
      exact hm (by omega)
theorem rparse_told (hb : IsBytes h bv l) (hbl : ∀ b o m c, bv = .slice (some ⟨b, o, none⟩) m c → b < h.size)
    (hok : ∀ t p gr h' vs, tellM l ext = .ok (t, p, gr) → Fm h.size h.size h h' → IsRe h' (fun b => h.size ≤ b) t vs → R (.tuple #[.agg vs.toArray, .int .i64 gr, faultV 0 0 0]) h')
    (hbad : ∀ e w h', tellM l ext = .bad e w → Fm h.size h.size h h' → R (.tuple #[.agg (reL 0 .zero 0 0 0 (.slice none 0 0)).toArray, .int .i64 0, faultV e w (langN ext)]) h') : CallsH Tryz.prog 16 #[bv, .bool ext] h R E := by
  have hP : l.length ≤ 256 → parseR (if ext then fuelR l else fuel l) l ext = wholeM (fuel l) l ext ∧ wholeM (fuel l) l ext ≠ .out := by
    intro hl
    have hend := whole_end (l := l) (ext := ext)
    have hne : wholeM (fuel l) l ext ≠ .out := fun e => by rw [e] at hend; exact hend
    refine ⟨?_, hne⟩
    cases ext with
    | true => exact parseR_whole hne
    | false => exact parseR_basic
  have hT : l.length ≤ 256 → tellM l ext = wholeM (fuel l) l ext := fun hl => by unfold tellM; rw [if_neg (by omega)]
  have hbig : l.length ≤ 256 ∨ 256 < l.length := by omega
  rcases hbig with hl | hl
  · obtain ⟨e1, e2⟩ := hP hl
    refine rparse_spec (f := if ext then fuelR l else fuel l) (by unfold fuelR fuel; split <;> omega) hb hbl (fun _ => by rw [e1]; exact e2) (fun h' => by omega) (fun _ e w h' hm f => ?_) (fun _ t q g h' vs hm f ht => ?_)
    · exact hbad e w h' (by rw [hT hl, ← e1]; exact hm) f
    · exact hok t q g h' vs (by rw [hT hl, ← e1]; exact hm) f ht
  · refine rparse_spec (f := 0) (by omega) hb hbl (fun h' => by omega) (fun _ h' f => ?_) (fun h' => by omega) (fun h' => by omega)
    exact hbad 2 0 h' (by unfold tellM; rw [if_pos hl]) f
theorem reads_neqFault {c : Bool} {h : Heap} {k : Value → Prop} {x y z : Int} : Reads Tryz.prog (binS .neq 42 c (.agg #[.int .i64 x, .int .i64 y, .int .i64 z]) (.agg #[.int .i64 x, .int .i64 y, .int .i64 z])) h k = k (.bool false) := reads_pure fun w => by
  simp only [binS, Sem.run_bind, guard42, Result.andThen_ok]
  rw [run_neq_struct, eqFault]
  simp
theorem flatZ : ∀ v ∈ (reL 0 .zero 0 0 0 (.slice none 0 0)).toArray.toList, flat v = true := by
  simpa using flat_reL (k := 0) (s := .zero) (mn := 0) (mx := 0) (g := 0) (kv := .slice none 0 0) rfl

theorem told_kind {t : T} {q g : Nat} (h : tellM l ext = .ok (t, q, g)) : kT t := by
  unfold tellM at h
  split at h
  · cases h
  · exact whole_kind h
theorem kT_kind {t : T} (h : kT t) : kindOf t ≠ 0 := by
  cases t
  simp only [kT] at h
  simp only [kindOf]
  omega
mutual
theorem sameT_self : ∀ (t : T), sameT t t = true
  | .node k s mn mx g ts => by
    unfold sameT
    simp [sameL_self ts]
theorem sameL_self : ∀ (ts : List T), sameL ts ts = true
  | [] => by unfold sameL; rfl
  | t :: ts => by
    unfold sameL
    simp [sameT_self t, sameL_self ts]
end
end Rt
end Go.Proofs

set_option maxRecDepth 100000
namespace Go.Proofs
open Go.Vcg
namespace Rt
attribute [local congr] Reads.congr ReadsS.congr pLoad.congr pLoadS.congr pStore.congr Runs.congr CallsH.congr bcase.congr boolV.congr Stable.congr pAlloc.congr
variable {S : Glb} {n : Nat} {h : Heap} {r : Nat} {bv : Value} {l : List UInt8} {p : Nat} {ext : Bool} {gr code pos lang : Nat} {R : Value → Heap → Prop} {E : List PanicEntry → Heap → Prop}

theorem tmod_range (x : Int) (m : Nat) (hm : 0 < m) : -(m : Int) < x.tmod m ∧ x.tmod m < m := by
  have h1 := Int.tmod_lt_of_pos x (b := m) (by omega)
  have h2 := Int.tmod_lt_of_pos (-x) (b := m) (by omega)
  rw [Int.neg_tmod] at h2
  omega
/-- n % m + m, % m -/
theorem tmod_twice (x : Int) (m : Nat) (hm : 0 < m) (hm2 : m ≤ 100000) : ∃ k : Nat, k < m ∧ (IntKind.i64.wrap (x.tmod m + m)).tmod m = k := by
  have h1 := tmod_range x m hm
  have e : IntKind.i64.wrap (x.tmod m + m) = ((x.tmod m + m).toNat : Nat) := wrapN _ _ (by omega) (by omega)
  rw [e]
  refine ⟨(x.tmod m + m).toNat % m, Nat.mod_lt _ hm, ?_⟩
  rw [Int.ofNat_tmod]
/-- a number's digits: some text -/
theorem numeral_spec {x : Int} (hk : ∀ h' l, l.length ≤ 2000 → Fm h.size h.size h h' → R (str l) h') : CallsH Tryz.prog 20 #[.int .i64 x] h R E := by
  refine C20 ?_
  unfold S20
  obtain ⟨k0, hk0, e0⟩ := tmod_twice x 1300 (by omega) (by omega)
  rw [reads_rem (by omega), reads_add, reads_rem (by omega)]
  refine Loop2.fuel (fun j a c h' => ∃ (N : Nat) (l : List UInt8), a = .int .i64 N ∧ c = str l ∧ j = N ∧ l.length + N ≤ 1500 ∧ Fm h.size h.size h h') (n := k0) ⟨k0, [], by rw [← e0]; rfl, rfl, rfl, by simp; omega, Fm.refl ..⟩ fun j a c h1 hi => ?_
  obtain ⟨N, l, rfl, rfl, hj, hl, f1⟩ := hi
  obtain rfl : N = j := hj.symm
  have s1 := f1.size
  have e1 : (N : Int).tmod 10 = ((N % 10 : Nat) : Int) := by rw [show (10 : Int) = ((10 : Nat) : Int) from rfl, ← Int.ofNat_tmod]
  have e2 : (N : Int).tdiv 10 = ((N / 10 : Nat) : Int) := by rw [show (10 : Int) = ((10 : Nat) : Int) from rfl, ← Int.ofNat_tdiv]
  rw [reads_rem (by omega), e1, reads_add, wrapN (48 + ((N % 10 : Nat) : Int)) (48 + N % 10) (by omega) (by omega), reads_conv_int Tryz.underlying3 Tryz.underlying5, wrap_u8 (by omega)]
  refine slice1_rule Tryz.info5 Tryz.underlying29 rfl (by omega) (by omega) fun h2 a2 => ?_
  have s2 := a2.size
  have hb2 : IsBytes h2 (.slice (some ⟨h1.size, 0, none⟩) 1 1) [u8 (48 + N % 10)] := by
    refine .inr ⟨h1.size, 0, 1, rfl, by simp, fun i hi => ?_⟩
    have hi : i = 0 := by simpa using hi
    subst hi
    rw [hcell_of a2.at_]
    simp [Value.cells, u8_toNat (show 48 + N % 10 < 256 from by omega)]
  rw [reads_bstring hb2 Tryz.underlying29 Tryz.underlying5 Tryz.underlying9, reads_sadd (by simp; omega), reads_quo (by omega), e2, wrapN ((N / 10 : Nat) : Int) (N / 10) rfl (by omega), reads_eq, boolV_bool]
  have f2 : Fm h.size h.size h h2 := f1.trans (Fm.al a2 (by omega))
  refine bcase_of (fun hc => ?_) (fun hc => ?_)
  · exact hk h2 _ (by simp; omega) f2
  · have hc : N / 10 ≠ 0 := by have := of_decide_eq_false hc; omega
    exact ⟨N / 10, by omega, N / 10, _, rfl, rfl, rfl, by simp; omega, f2⟩

def tail7 (t4 t15_2 t61 : Value) (R : Value → Heap → Prop) (E : List PanicEntry → Heap → Prop) (h6 : Heap) : Prop :=
  CallsH Tryz.prog 11 #[t61, t4] h6 (fun t63 h7 =>
  Reads Tryz.prog (Instr.extract t63 0) h7 fun t64 =>
  Reads Tryz.prog (Instr.extract t63 1) h7 fun t65 =>
  Runs Tryz.prog (vS (convert 9 29 t15_2)) h7 (fun t68 h8 =>
  CallsH Tryz.prog 16 #[t68, t4] h8 (fun t70 h9 =>
  Reads Tryz.prog (Instr.extract t70 0) h9 fun t71 =>
  Reads Tryz.prog (Instr.extract t70 1) h9 fun t72 =>
  Reads Tryz.prog (Instr.extract t70 2) h9 fun t73 =>
  pAlloc Tryz.prog 36 h9 fun t18 h10 =>
  pAlloc Tryz.prog 42 h10 fun t20 h11 =>
  pStore Tryz.prog 36 t18 t71 h11 fun h12 =>
  pStore Tryz.prog 42 t20 t73 h12 fun h13 =>
  Join1 (fun J7 =>
    Stable h13 fun S8 =>
    pLoadS Tryz.prog 42 t20 S8 fun t76 =>
    (CallsH Tryz.prog 17 #[t65] h13 (fun t75 h14 =>
    S8 h14 ∧ (Reads Tryz.prog (binS .neq 42 false t75 t76) h14 fun t77 =>
    boolV t77 fun b9 => bcase b9 (
    J7 (.bool true) h14) (
    Reads Tryz.prog (Instr.fieldAt 42 t20 0) h14 fun t79 =>
    pLoad Tryz.prog 3 t79 h14 fun t80 =>
    Reads Tryz.prog (binS .neq 3 true t80 (.int .i64 0)) h14 fun t81 =>
    J7 t81 h14))) E) ∧ True)
  (fun t82 h15 =>
  boolV t82 fun b10 => bcase b10 (
    Stable h15 fun S11 =>
    pLoadS Tryz.prog 42 t20 S11 fun t85 =>
    (CallsH Tryz.prog 17 #[t65] h15 (fun t84 h16 =>
    S11 h16 ∧ (Reads Tryz.prog (binS .eql 42 false t84 t85) h16 fun t86 =>
    (boolV t86 fun b12 => bcase b12 (
    CallsH Tryz.prog 10 #[] h16 (fun t88 h17 =>
    True ∧ (R t88 h17)) E) (
    R (.bool false) h16)) ∧ True)) E) ∧ True) (
    Stable h15 fun S13 =>
  pLoadS Tryz.prog 36 t18 S13 fun t92 =>
  (CallsH Tryz.prog 21 #[t64] h15 (fun t91 h18 =>
  S13 h18 ∧ ((CallsH Tryz.prog 22 #[t92] h18 (fun t93 h19 =>
  True ∧ (Reads Tryz.prog (binS .eql 9 false t91 t93) h19 fun t94 =>
  (boolV t94 fun b14 => bcase b14 (
  CallsH Tryz.prog 10 #[] h19 (fun t96 h20 =>
  True ∧ (R t96 h20)) E) (
  R (.bool false) h19)) ∧ True)) E) ∧ True)) E) ∧ True))) E) E) E
theorem tail7_spec (gl : Gl S h) (hn : S.N ≤ h.size) (hpw : Pw h) (h24 : 24 ≤ h.size) (hb : IsBytes h bv l) (hbl : ∀ b o m c, bv = .slice (some ⟨b, o, none⟩) m c → b < h.size) (hk : ∀ h', Fm h.size h.size h h' → R (.bool true) h') : tail7 (.bool ext) (str l) bv R E h := by
  unfold tail7
  refine parse_told gl hn hb hbl (fun t p gr h1 b vs hm hg hgr hsz f1 hb1 h66 ht => ?_) (fun e w h1 x hm he1 he2 hw f1 hx => ?_)
  · have s1 := f1.size
    have lb := at_lt h66
    rw [reads_ext0, reads_ext1]
    refine runs_sbytes fun v2 h1b c2 f1b hb2 hv2 hl2 => ?_
    have s1b := f1b.size
    refine rparse_told hb2 (fun b o m c e => by rw [hv2] at e; injection e with e; injection e with e; injection e with e; omega) (fun t' p' gr' h2 vs2 hm' f2 ht2 => ?_) (fun e w h2 hm' f2 => by rw [hm] at hm'; cases hm')
    rw [hm] at hm'
    cases hm'
    have s2 := f2.size
    rw [reads_ext0, reads_ext1, reads_ext2]
    refine alloc_rule Tryz.zero36 fun h3 a3 => alloc_rule Tryz.zero42 fun h4 a4 => ?_
    have s3 := a3.size
    have s4 := a4.size
    refine storeFull ((a4.old _ (by omega)).trans a3.at_) (xs := vs2.toArray) (by rw [Tryz.size36]; simp [ht2.len]) (by simp [ht2.len, Value.cells]) (by simpa using ht2.flat) fun h5 u5 => ?_
    have s5 := u5.size
    refine storeFull ((u5.other _ (by omega)).trans a4.at_) (xs := #[.int .i64 (0 : Nat), .int .i64 (0 : Nat), .int .i64 (0 : Nat)]) Tryz.size42 rfl flat3 fun h6 u6 => ?_
    have s6 := u6.size
    have o6 : ∀ k, k < h2.size → h6[k]? = h2[k]? := fun k hk => (u6.other _ (by omega)).trans ((u5.other _ (by omega)).trans ((a4.old _ (by omega)).trans (a3.old _ hk)))
    have o16 : ∀ k, k < h1.size → h6[k]? = h1[k]? := fun k hk => (o6 k (by omega)).trans ((f2.same k (by omega) (by omega)).trans (f1b.same k hk (by omega)))
    have f6 : Fm h.size h.size h h6 := f1.trans ⟨by omega, fun k k1 k2 => o16 k (by omega)⟩
    have t7 : h6[h2.size]? = some (.cells vs2.toArray 36 (0, 0)) := (u6.other _ (by omega)).trans u5.same
    have t9 := u6.same
    refine Join1.intro (fun v h' => v = .bool false ∧ Fm h6.size h6.size h6 h') ?_ ?_
    · refine ⟨fun h' => h'[h3.size]? = some (.cells #[.int .i64 (0 : Nat), .int .i64 (0 : Nat), .int .i64 (0 : Nat)] 42 (0, 0)), t9, ?_⟩
      refine pLoadS_all (cs := #[.int .i64 (0 : Nat), .int .i64 (0 : Nat), .int .i64 (0 : Nat)]) Tryz.agg42 (fun h' hh => hh) ?_
      refine ⟨tell_nil fun h7 f7 => ?_, trivial⟩
      have t9' := (f7.same _ (by omega) (by omega)).trans t9
      refine ⟨t9', ?_⟩
      rw [show faultV 0 0 0 = .agg #[.int .i64 (0 : Nat), .int .i64 (0 : Nat), .int .i64 (0 : Nat)] from rfl, reads_neqFault, boolV_bool, bcase_false, Tryz.fa42_0, addr_add, pLoad_one (v := .int .i64 (0 : Nat)) Tryz.agg3 (by rw [hcell_of t9']; rfl), reads_ne]
      exact ⟨rfl, f7⟩
    rintro v h8 ⟨rfl, f8⟩
    have s8 := f8.size
    have o8 : ∀ k, k < h1.size → h8[k]? = h1[k]? := fun k hk => (f8.same k (by omega) (by omega)).trans (o16 k hk)
    have g8 : Fm h.size h.size h h8 := f6.trans (Fm.lift f8 (by omega) (by omega))
    have b8 := (o8 b lb).trans h66
    have ht8 : IsRe h8 (fun x => h.size ≤ x ∧ x ≠ b) t vs := ht.frame fun x hx hlt => ⟨hx, o8 x hlt⟩
    have t7' := (f8.same _ (by omega) (by omega)).trans t7
    have hlenT : (textM t).length ≤ 1000000 := by have := textM_short hg.2.2; omega
    rw [boolV_bool, bcase_false]
    refine ⟨fun h' => h'[h2.size]? = some (.cells vs2.toArray 36 (0, 0)), t7', ?_⟩
    refine pLoadS_all (cs := vs2.toArray) (by rw [Tryz.agg36]; simp [ht2.len]) (fun h' hh => hh) ?_
    refine ⟨?_, trivial⟩
    refine text_spec b8 ht8 (kT_kind (told_kind hm)) hg.2.2 hlenT fun h11 f11 => ?_
    have s11 := f11.size
    refine ⟨(f11.same _ (by omega) (by omega)).trans t7', ?_, trivial⟩
    have g11 := g8.trans (Fm.lift (n := h.size) (r := h.size) f11 (by omega) (by omega))
    refine rtext_spec _ (Nat.le_refl _) (by omega) hg.2.2 (told_kind hm) (hpw.fm g11 h24 h24) (by omega) (Q := fun x => x < h2.size) (ht2.frame fun x hx hlt => ⟨hlt, (f11.same x (by omega) (by omega)).trans ((f8.same x (by omega) (by omega)).trans (o6 x hlt))⟩) hlenT fun h12 f12 => ?_
    have s12 := f12.size
    have g12 := g11.trans (Fm.lift (n := h.size) (r := h.size) f12 (by omega) (by omega))
    refine ⟨trivial, ?_⟩
    rw [reads_seq, decide_eq_true rfl, boolV_bool, bcase_true]
    refine ⟨?_, trivial⟩
    refine awake_spec (gl.fm g12 hn hn) (by omega) fun h15 f15 => ⟨trivial, ?_⟩
    exact hk h15 (g12.trans (Fm.lift f15 (by omega) (by omega)))
  · have s1 := f1.size
    rw [reads_ext0, reads_ext1]
    refine runs_sbytes fun v2 h1b c2 f1b hb2 hv2 hl2 => ?_
    have s1b := f1b.size
    refine rparse_told hb2 (fun b o m c e => by rw [hv2] at e; injection e with e; injection e with e; injection e with e; omega) (fun t' p' gr' h2 vs2 hm' f2 ht2 => by rw [hm] at hm'; cases hm') (fun e' w' h2 hm' f2 => ?_)
    rw [hm] at hm'
    cases hm'
    have s2 := f2.size
    rw [reads_ext0, reads_ext1, reads_ext2]
    refine alloc_rule Tryz.zero36 fun h3 a3 => alloc_rule Tryz.zero42 fun h4 a4 => ?_
    have s3 := a3.size
    have s4 := a4.size
    refine storeFull ((a4.old _ (by omega)).trans a3.at_) (xs := (reL 0 .zero 0 0 0 (.slice none 0 0)).toArray) Tryz.size36 rfl flatZ fun h5 u5 => ?_
    have s5 := u5.size
    refine storeFull ((u5.other _ (by omega)).trans a4.at_) (xs := #[.int .i64 e, .int .i64 w, .int .i64 (langN ext : Nat)]) Tryz.size42 rfl flat3 fun h6 u6 => ?_
    have s6 := u6.size
    have o16 : ∀ k, k < h1.size → h6[k]? = h1[k]? := fun k hk => (u6.other _ (by omega)).trans ((u5.other _ (by omega)).trans ((a4.old _ (by omega)).trans ((a3.old _ (by omega)).trans ((f2.same k (by omega) (by omega)).trans (f1b.same k hk (by omega))))))
    have f6 : Fm h.size h.size h h6 := f1.trans ⟨by omega, fun k k1 k2 => o16 k (by omega)⟩
    have hx6 : IsErr S h6 h.size (langN ext) e w x := hx.fm fun k hk _ => o16 k hk
    have t9 := u6.same
    refine Join1.intro (fun v h' => v = .bool true ∧ Fm h6.size h6.size h6 h') ?_ ?_
    · refine ⟨fun h' => h'[h3.size]? = some (.cells #[.int .i64 e, .int .i64 w, .int .i64 (langN ext : Nat)] 42 (0, 0)), t9, ?_⟩
      refine pLoadS_all (cs := #[.int .i64 e, .int .i64 w, .int .i64 (langN ext : Nat)]) Tryz.agg42 (fun h' hh => hh) ?_
      refine ⟨tell_spec (gl.fm f6 hn hn) (by omega) hx6 he1 (by omega) fun h7 f7 => ?_, trivial⟩
      have t9' := (f7.same _ (by omega) (by omega)).trans t9
      refine ⟨t9', ?_⟩
      rw [show faultV e w (langN ext) = .agg #[.int .i64 e, .int .i64 w, .int .i64 (langN ext : Nat)] from rfl, reads_neqFault, boolV_bool, bcase_false, Tryz.fa42_0, addr_add, pLoad_one (v := .int .i64 e) Tryz.agg3 (by rw [hcell_of t9']; rfl), reads_ne]
      refine ⟨?_, f7⟩
      rw [decide_eq_false (by omega)]
      rfl
    rintro v h8 ⟨rfl, f8⟩
    have s8 := f8.size
    have g8 : Fm h.size h.size h h8 := f6.trans (Fm.lift f8 (by omega) (by omega))
    rw [boolV_bool, bcase_true]
    have t9' := (f8.same _ (by omega) (by omega)).trans t9
    refine ⟨fun h' => h'[h3.size]? = some (.cells #[.int .i64 e, .int .i64 w, .int .i64 (langN ext : Nat)] 42 (0, 0)), t9', ?_⟩
    refine pLoadS_all (cs := #[.int .i64 e, .int .i64 w, .int .i64 (langN ext : Nat)]) Tryz.agg42 (fun h' hh => hh) ?_
    refine ⟨tell_spec (gl.fm g8 hn hn) (by omega) (hx6.fm fun k hk _ => f8.same k hk (by omega)) he1 (by omega) fun h9 f9 => ?_, trivial⟩
    have s9 := f9.size
    refine ⟨(f9.same _ (by omega) (by omega)).trans t9', ?_⟩
    rw [show faultV e w (langN ext) = .agg #[.int .i64 e, .int .i64 w, .int .i64 (langN ext : Nat)] from rfl, reads_eqFault, boolV_bool, bcase_true]
    refine ⟨?_, trivial⟩
    have g9 := g8.trans (Fm.lift f9 (by omega) (by omega))
    refine awake_spec (gl.fm g9 hn hn) (by omega) fun h10 f10 => ⟨trivial, ?_⟩
    exact hk h10 (g9.trans (Fm.lift f10 (by omega) (by omega)))
theorem limits_spec {x0 x1 x2 x3 : Int} (gl : Gl S h) (hn : S.N ≤ h.size) (hpw : Pw h) (h24 : 24 ≤ h.size) (hk : ∀ h', Fm h.size h.size h h' → R (.bool true) h') : CallsH Tryz.prog 7 #[.int .i64 x0, .int .i64 x1, .int .i64 x2, .int .i64 x3, .bool ext] h R E := by
  refine C7 ?_
  unfold S7
  obtain ⟨N, hN, eN⟩ := tmod_twice x0 300 (by omega) (by omega)
  obtain ⟨G, hG, eG⟩ := tmod_twice x1 14 (by omega) (by omega)
  rw [reads_rem (by omega), reads_add, reads_rem (by omega), reads_rem (by omega), reads_add, reads_rem (by omega)]
  rw [show (IntKind.i64.wrap (x0.tmod 300 + 300)).tmod 300 = (N : Int) from eN, show (IntKind.i64.wrap (x1.tmod 14 + 14)).tmod 14 = (G : Int) from eG]
  refine Join4.intro (fun a b c d h' => h' = h ∧ ∃ o s t u : List UInt8, a = str o ∧ b = str s ∧ c = str t ∧ d = str u ∧ o.length ≤ 2 ∧ s.length ≤ 2 ∧ t.length ≤ 2 ∧ u.length ≤ 2) ?_ ?_
  · rw [boolV_bool]
    refine bcase_of (fun _ => ⟨rfl, _, _, _, _, rfl, rfl, rfl, rfl, by simp, by simp, by simp, by simp⟩) (fun _ => ⟨rfl, _, _, _, _, rfl, rfl, rfl, rfl, by simp, by simp, by simp, by simp⟩)
  rintro a b c d h1 ⟨rfl, o, s, t, u, rfl, rfl, rfl, rfl, ho, hs, ht, hu⟩
  refine Loop2.fuel (fun j a c h' => h' = h1 ∧ ∃ (i : Nat) (l : List UInt8), a = str l ∧ c = .int .i64 i ∧ i ≤ G ∧ j = G - i ∧ l.length ≤ 5 * i) (n := G) ⟨rfl, 0, [], rfl, rfl, by omega, by omega, by simp⟩ fun j a c h2 hi => ?_
  obtain ⟨rfl, i, l, rfl, rfl, hiG, rfl, hl⟩ := hi
  rw [reads_lt, dec_nn_lt, boolV_bool]
  refine bcase_of (fun hc => ?_) (fun hc => ?_)
  · have hc : i < G := of_decide_eq_true hc
    rw [reads_sadd (by simp; omega), reads_sadd (by simp; omega), reads_sadd (by simp; omega), reads_add, wrap_n1 _ (by omega)]
    exact ⟨G - (i + 1), by omega, rfl, i + 1, _, rfl, rfl, by omega, rfl, by simp; omega⟩
  clear hc
  rw [reads_sadd (by simp; omega)]
  refine numeral_spec fun h3 d1 hd1 f3 => ?_
  have s3 := f3.size
  rw [reads_sadd (by simp; omega), reads_sadd (by simp; omega)]
  refine numeral_spec fun h4 d2 hd2 f4 => ?_
  have s4 := f4.size
  rw [reads_sadd (by simp; omega), reads_sadd (by simp; omega), reads_sadd (by simp; omega)]
  have f04 : Fm h2.size h2.size h2 h4 := f3.trans (Fm.lift f4 (by omega) (by omega))
  refine Loop1.fuel (fun j a h' => h' = h4 ∧ ∃ l : List UInt8, a = str l ∧ l.length ≤ 10000 ∧ j = N - l.length) (n := N - (l ++ ([98] ++ t ++ d1 ++ [44] ++ d2 ++ u)).length) ⟨rfl, _, rfl, by simp; omega, rfl⟩ fun j a h5 hi => ?_
  obtain ⟨rfl, l, rfl, hl, rfl⟩ := hi
  rw [reads_slen Tryz.underlying9, reads_lt, dec_nn_lt, boolV_bool]
  refine bcase_of (fun hc => ?_) (fun hc => ?_)
  · have hc : l.length < N := of_decide_eq_true hc
    rw [reads_sadd (by simp; omega)]
    exact ⟨N - (l ++ [99]).length, by simp; omega, rfl, _, rfl, by simp; omega, rfl⟩
  clear hc
  refine runs_sbytes fun v1 h6 c1 f6 hb6 hv1 hl6 => ?_
  have s6 := f6.size
  have g6 : Fm h2.size h2.size h2 h6 := f04.trans (Fm.lift f6 (by omega) (by omega))
  exact tail7_spec (gl.fm g6 hn hn) (by omega) (hpw.fm g6 h24 h24) (by omega) hb6 (fun b o m c e => by rw [hv1] at e; injection e with e; injection e with e; injection e with e; omega) fun h' f => hk h' (g6.trans (Fm.lift f (by omega) (by omega)))
end Rt
end Go.Proofs
