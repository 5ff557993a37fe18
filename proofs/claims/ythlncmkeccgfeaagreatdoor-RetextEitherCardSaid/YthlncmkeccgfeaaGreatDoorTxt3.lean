/- A part of the proofs over this seat: Txt3. -/
import Derived.Test.YthlncmkeccgfeaaGreatDoorWrt
import Derived.Great.BuildSlice
import Derived.Lib.SlBytesConst
set_option linter.unusedVariables false
set_option linter.unusedSimpArgs false
set_option maxRecDepth 100000
namespace Go.Proofs
open Go.Vcg
namespace Rt
attribute [local congr] Reads.congr ReadsS.congr pLoad.congr pLoadS.congr pStore.congr Runs.congr CallsH.congr bcase.congr boolV.congr Stable.congr pAlloc.congr
variable {n b : Nat} {h : Heap} {l : List UInt8} {gr : Nat} {ext : Bool} {R : Value → Heap → Prop} {E : List PanicEntry → Heap → Prop}
theorem textM_ne (t : T) : textM t ≠ [] := by
  cases t with
  | node k s mn mx g ts =>
    unfold textM
    split
    · split
      · simp
      · unfold setTextM; split <;> simp
    · split
      · simp
      · split
        · simp
        · simp
def kindOf : T → Nat | .node k _ _ _ _ _ => k
theorem text_spec {t : T} {vs : List Value} {Q : Nat → Prop} (hb : h[b]? = some (.cells (vs ++ [Value.int .i64 gr, Value.bool ext]).toArray 66 (0, 0))) (ht : IsRe h Q t vs) (hk0 : kindOf t ≠ 0) (hfit : fitT t) (hlen : (textM t).length ≤ 1000000)
    (hk : ∀ h', Fm h.size h.size h h' → R (str (textM t)) h') : CallsH Tryz.prog 21 #[ptr b] h R E := by
  have hvl := ht.len
  have hcs : ((vs ++ [Value.int .i64 gr, Value.bool ext]).toArray).size = 11 := by simp [hvl]
  refine C21 ?_
  unfold S21
  refine Join0.intro (fun h' => h' = h) ?_ ?_
  · rw [Tryz.eql24_s, boolV_bool, bcase_false, reads_nil, Tryz.fa66_0, addr_add, Tryz.fa36_0, addr_add]
    cases t with
    | node k s mn mx g ts =>
      have ht' := ht
      obtain ⟨q, cc, rfl, _⟩ := kidsOf ht
      rw [pLoad_one (v := .int .i64 k) Tryz.agg3 (by rw [hcell_of hb]; rfl), reads_eq, show (0 : Int) = ((0 : Nat) : Int) from rfl, dec_nn_eq, decide_eq_false (show ¬ k = 0 from hk0), boolV_bool, bcase_false]
  rintro h1 rfl
  refine alloc_rule Tryz.zero87 fun h2 a2 => ?_
  have s2 := a2.size
  rw [reads_nil, Tryz.fa66_0, addr_add]
  refine load_row ((a2.old b (at_lt hb)).trans hb) Tryz.agg36 (by omega) ?_
  have e9 : ((vs ++ [Value.int .i64 gr, Value.bool ext]).toArray.toList.drop (0 + 0)).take 9 = vs := by
    simp [hvl, List.take_append]
  rw [e9]
  have ht2 : IsRe h2 (fun x => x < h1.size) t vs := ht.frame fun x _ hx => ⟨hx, a2.old x hx⟩
  have sb2 : SB h2 h2.size h1.size [] := ⟨by omega, .pointer none, .slice none 0 0, .inl rfl, a2.at_, Owns.nil ..⟩
  refine write_spec _ (Nat.le_refl _) hfit ht2 (fun x hx => by omega) sb2 (Nat.le_refl _) (by simpa using hlen) fun h3 sb3 f3 _ => ?_
  rw [List.nil_append] at sb3
  have s3 := f3.size
  refine string_spec sb3 (textM_ne t) hlen fun h4 s4 f4 => ?_
  exact hk h4 ⟨by omega, fun k hk _ => (f4 k (by omega)).trans ((f3.same k (by omega) (by omega)).trans (a2.old k hk))⟩

/-! ### awake -/
theorem awake_fit : fitT awakeTree := by
  have h1 : (setOf [97]).ok := foldl_ok _ W4.zero_ok
  have h2 : (setOf [98]).ok := foldl_ok _ W4.zero_ok
  simp only [awakeTree, single, fitT, fitL, h1, h2, W4.zero_ok, true_and, and_true]
  decide
theorem baseM_10_1 : baseM 10 1 = [49] := by rw [baseM_lt (by omega)]; rfl
theorem text97 : (if setOf [97] = anyW then [46] else setTextM (setOf [97])) = ([91, 54, 49, 93] : List UInt8) := by with_unfolding_all rfl
theorem text98 : (if setOf [98] = anyW then [46] else setTextM (setOf [98])) = ([91, 54, 50, 93] : List UInt8) := by with_unfolding_all rfl
theorem awake_text : textM awakeTree = [40, 114, 101, 112, 32, 49, 32, 45, 32, 40, 103, 114, 111, 117, 112, 32, 49, 32, 40, 97, 108, 116, 32, 91, 54, 49, 93, 32, 91, 54, 50, 93, 41, 41, 41] := by
  have e : numM 1 = [49] := baseM_10_1
  simp [awakeTree, single, textM, textsM, headM, e, baseM_10_1, text97, text98]
theorem runs_awake {K : Value → Heap → Prop}
    (hk : K (.slice (some ⟨h.size, 0, none⟩) 6 6) (h.push (.cells #[.int .u8 40, .int .u8 97, .int .u8 124, .int .u8 98, .int .u8 41, .int .u8 43] 5))) :
    Runs Tryz.prog (vS (Instr.buildSlice 29 6 #[(0, (.int .u8 40)), (1, (.int .u8 97)), (2, (.int .u8 124)), (3, (.int .u8 98)), (4, (.int .u8 41)), (5, (.int .u8 43))])) h K E := by
  intro w hw
  subst hw
  obtain ⟨i, hi, hz, hsz, _⟩ := Tryz.info5
  have e := run_buildSlice (P := Tryz.prog) w 29 5 6 #[(0, (.int .u8 40)), (1, (.int .u8 97)), (2, (.int .u8 124)), (3, (.int .u8 98)), (4, (.int .u8 41)), (5, (.int .u8 43))] #[.int .u8 40, .int .u8 97, .int .u8 124, .int .u8 98, .int .u8 41, .int .u8 43] i (.int .u8 0) Tryz.underlying29 hi hz (by rw [hsz]; omega) (by rw [hsz]; omega) (by
    rw [hsz]
    have e6 : (Array.range (6 * 1)).map (fun j => (Value.int IntKind.u8 0).cells[j % (Value.int IntKind.u8 0).cells.size]!) = #[.int .u8 0, .int .u8 0, .int .u8 0, .int .u8 0, .int .u8 0, .int .u8 0] := by
      apply Array.ext'
      simp [Array.toList_map, Array.toList_range, List.range, List.range.loop, Value.cells]
    rw [e6]
    rfl)
  simp only [vS, Sem.run_bind, e, Result.andThen_ok, Sem.run_pure, uponH]
  exact ⟨⟨rfl, rfl, rfl⟩, hk⟩
theorem runs_const29 {C : Array Value} {m c : Nat} {K : Value → Heap → Prop} (hk : ∀ h', Al h h' (.cells C 5 (C.size, C.size + 1)) → K (.slice (some ⟨h.size, 0, none⟩) m c) h') :
    Runs Tryz.prog (vS (convert 29 29 (.slice (some ⟨h.size, 0, none⟩) m c))) (h.push (.cells C 5)) K E := by
  intro w hw
  have e := Go.Lib.run_convert_bytes_const (P := Tryz.prog) { w with heap := h } 29 5 C m c Tryz.underlying29 Tryz.underlying5
  have ew : ({ w with heap := h } : World).alloc (.cells C 5) = w := by
    cases w; simp only [World.alloc] at hw ⊢; rw [hw]
  rw [ew] at e
  simp only [vS, Sem.run_bind, e, Result.andThen_ok, Sem.run_pure, uponH]
  exact ⟨⟨rfl, rfl, rfl⟩, hk _ (Al.push ..)⟩
theorem awake_spec {S : Glb} (gl : Gl S h) (hn : S.N ≤ h.size) (hk : ∀ h', Fm h.size h.size h h' → R (.bool true) h') : CallsH Tryz.prog 10 #[] h R E := by
  refine C10 ?_
  unfold S10
  refine runs_awake (runs_const29 fun h1 a1 => ?_)
  have s1 := a1.size
  have f1 : Fm h.size h.size h h1 := Fm.al a1 (Nat.le_refl _)
  have hby : IsBytes h1 (.slice (some ⟨h.size, 0, none⟩) 6 6) awakeText := by
    refine .inr ⟨h.size, 0, 6, rfl, by decide, fun i hi => ?_⟩
    have hi : i < 6 := hi
    rw [hcell_of a1.at_, Nat.zero_add]
    rcases (by omega : i = 0 ∨ i = 1 ∨ i = 2 ∨ i = 3 ∨ i = 4 ∨ i = 5) with rfl | rfl | rfl | rfl | rfl | rfl <;> rfl
  refine parse_ok (k := 20) (by omega) (gl.fm f1 hn hn) (by omega) hby (fun b o m c e => by injection e with e; injection e with e; injection e with e; omega) (by decide) awake_model fun h2 b vs f2 hb2 h2b ht2 => ?_
  have s2 := f2.size
  rw [reads_ext0, reads_ext1, Tryz.eql26_n, boolV_bool, bcase_true, Tryz.neq24_s, boolV_bool, bcase_true]
  refine text_spec h2b ht2 (by decide) awake_fit (by rw [awake_text]; decide) fun h3 f3 => ?_
  rw [reads_seq, awake_text]
  exact hk h3 (f1.trans ((Fm.lift f2 (by omega) (by omega)).trans (Fm.lift f3 (by omega) (by omega))))
end Rt
end Go.Proofs
