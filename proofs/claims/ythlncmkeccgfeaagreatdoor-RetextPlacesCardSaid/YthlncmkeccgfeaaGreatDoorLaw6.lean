/- A part of the proofs over this seat: Law6. -/
import Derived.Test.YthlncmkeccgfeaaGreatDoorEnd
import Derived.Test.YthlncmkeccgfeaaGreatDoorPrs5
import Derived.Test.YthlncmkeccgfeaaGreatDoorTxt3
set_option linter.unusedVariables false
set_option linter.unusedSimpArgs false
set_option maxRecDepth 100000
namespace Go.Proofs
open Go.Vcg
namespace Rt
attribute [local congr] Reads.congr ReadsS.congr pLoad.congr pLoadS.congr pStore.congr Runs.congr CallsH.congr bcase.congr boolV.congr Stable.congr pAlloc.congr
variable {S : Glb} {n : Nat} {h : Heap} {r : Nat} {bv : Value} {l : List UInt8} {p : Nat} {ext : Bool} {op gr : Nat} {R : Value → Heap → Prop} {E : List PanicEntry → Heap → Prop}

theorem fld36_0 {h : Heap} {k : Value → Prop} {b c d e f g x y : Value} {K : IntKind} {n : Int} : Reads Tryz.prog (Instr.field 36 (.agg #[.int K n, b, c, d, e, f, g, x, y]) 0) h k = k (.int K n) := reads_pure fun w => show (Instr.field 36 (.agg #[.int K n, b, c, d, e, f, g, x, y]) 0).run Tryz.prog w = .ok (.int K n) w from by kernel_rfl
theorem reads_eqB {h : Heap} {k : Value → Prop} {a b : Bool} : Reads Tryz.prog (binS .eql 4 false (.bool a) (.bool b)) h k = k (.bool (decide (a = b))) := by
  cases a <;> cases b
  · exact reads_pure fun w => show (binS .eql 4 false (.bool false) (.bool false)).run Tryz.prog w = .ok (.bool true) w from by kernel_rfl
  · exact reads_pure fun w => show (binS .eql 4 false (.bool false) (.bool true)).run Tryz.prog w = .ok (.bool false) w from by kernel_rfl
  · exact reads_pure fun w => show (binS .eql 4 false (.bool true) (.bool false)).run Tryz.prog w = .ok (.bool false) w from by kernel_rfl
  · exact reads_pure fun w => show (binS .eql 4 false (.bool true) (.bool true)).run Tryz.prog w = .ok (.bool true) w from by kernel_rfl
theorem IsErr.ifc {q lang code pos : Nat} {e : Value} (he : IsErr S h q lang code pos e) : ∃ t v, e = .iface t v := by
  obtain ⟨a, b, _, _, rfl, _⟩ := he
  exact ⟨_, _, rfl⟩
/-- Parse, all of it -/
theorem parse_spec (gl : Gl S h) (hn : S.N ≤ h.size) (hb : IsBytes h bv l) (hbl : ∀ b o m c, bv = .slice (some ⟨b, o, none⟩) m c → b < h.size)
    (hok : ∀ h' b vs t p gr, l.length ≤ 256 → wholeM (fuel l) l ext = .ok (t, p, gr) → Good t → 1 ≤ p → p ≤ l.length → gr ≤ 9 → szT t ≤ 768 → Fm h.size h.size h h' → h.size ≤ b → h'[b]? = some (.cells (vs ++ [.int .i64 gr, .bool ext]).toArray 66 (0, 0)) → IsRe h' (fun x => h.size ≤ x ∧ x ≠ b) t vs → R (.tuple #[ptr b, .nilIface]) h')
    (hbad : ∀ h' e code pos, 1 ≤ code → code ≤ 10 → pos ≤ l.length → (code = 2 ↔ 256 < l.length) → (l.length ≤ 256 → wholeM (fuel l) l ext = .bad code pos) → (256 < l.length → pos = 0) → Fm h.size h.size h h' → IsErr S h' h.size (if ext then 4 else 3) code pos e → R (.tuple #[.pointer none, e]) h') :
    CallsH Tryz.prog 11 #[bv, .bool ext] h R E := by
  rcases Nat.lt_or_ge 256 l.length with hl | hl
  · exact parse_long gl hn hb hbl hl fun h' e f he => hbad h' e 2 0 (by omega) (by omega) (by omega) (by simp [hl]) (by omega) (fun _ => rfl) f he
  · have hend := whole_end (l := l) (ext := ext)
    cases hm : wholeM (fuel l) l ext with
    | out => rw [hm] at hend; exact hend.elim
    | bad code pos =>
      rw [hm] at hend
      refine parse_bad (k := fuel l) (by unfold fuel; omega) gl hn hb hbl hl hm fun h' e f he => hbad h' e code pos ?_ ?_ hend.2 ?_ (fun _ => hm) (by omega) f he
      · have := hend.1; unfold errC at this; omega
      · have := hend.1; unfold errC at this; omega
      · have := hend.1; unfold errC at this; omega
    | ok x =>
      rw [hm] at hend
      obtain ⟨t, p, gr⟩ := x
      obtain ⟨h1, h2, h3, h4, h5⟩ := hend
      simp only at h1 h2 h3 h4 h5
      exact parse_ok (k := fuel l) (by unfold fuel; omega) gl hn hb hbl hl hm fun h' b vs f hb' h66 ht => hok h' b vs t p gr hl hm h1 h2 h3 h4 (by omega) f hb' h66 ht
theorem places_spec (gl : Gl S h) (hn : S.N ≤ h.size) (hb : IsBytes h bv l) (hbl : ∀ b o m c, bv = .slice (some ⟨b, o, none⟩) m c → b < h.size) (hk : ∀ h', Fm h.size h.size h h' → R (.bool true) h') : CallsH Tryz.prog 6 #[bv, .bool ext] h R E := by
  refine C6 ?_
  unfold S6
  have fin : ∀ {h'}, Fm h.size h.size h h' → CallsH Tryz.prog 10 #[] h' (fun t h'' => R t h'') E := by
    intro h' f
    have := f.size
    exact awake_spec (gl.fm f hn hn) (by omega) fun h'' f'' => hk h'' (f.trans (Fm.lift f'' (by omega) (by omega)))
  refine parse_spec gl hn hb hbl (fun h1 b vs t p gr hl hm hg hp1 hp2 hgr hsz f1 hb1 h66 ht => ?_) (fun h1 e code pos hc1 hc2 hpos h2 _ _ f1 he => ?_)
  · have s1 := f1.size
    rw [reads_ext0, reads_ext1]
    refine tell_nil fun h2 f2 => ?_
    have s2 := f2.size
    have f02 := f1.trans (Fm.lift (n := h.size) (r := h.size) f2 (by omega) (by omega))
    refine alloc_rule Tryz.zero42 fun h3 a3 => ?_
    have s3 := a3.size
    refine storeFull a3.at_ (xs := #[.int .i64 (0 : Nat), .int .i64 (0 : Nat), .int .i64 (0 : Nat)]) Tryz.size42 rfl flat3 fun h4 u4 => ?_
    have s4 := u4.size
    have f04 : Fm h.size h.size h h4 := f02.trans ((Fm.al a3 (by omega)).trans (Fm.upd u4 (.inl (by omega))))
    have f14 : ∀ k, k < h1.size → h4[k]? = h1[k]? := fun k hk => by rw [u4.other _ (by omega), a3.old _ (by omega), f2.same _ hk (by omega)]
    have hb4 := hb.frame fun b o k hv => f04.same b (hbl b o _ k hv) (by have := hbl b o _ k hv; omega)
    have lb := at_lt h66
    rw [Tryz.neq26_n, boolV_bool, bcase_false, Tryz.neq24_s, boolV_bool, bcase_true, reads_blen hb4 Tryz.underlying29, reads_gt, boolV_bool]
    refine bcase_of (fun hc => ?_) (fun hc => by have := of_decide_eq_false hc; omega)
    refine groups_spec ht.len ((f14 b lb).trans h66) ?_
    rw [reads_le, boolV_bool]
    refine bcase_of (fun hc => ?_) (fun hc => by have := of_decide_eq_false hc; omega)
    have ht4 : IsRe h4 (fun x => h.size ≤ x ∧ x ≠ b) t vs := ht.frame fun x hx hlt => ⟨hx, f14 x hlt⟩
    refine tree_spec ((f14 b lb).trans h66) ht4 (by omega) fun h5 ws f5 ht5 => ?_
    have s5 := f5.size
    obtain ⟨k, s, mn, mx, g, ts⟩ := t
    obtain ⟨q, cc, rfl, _⟩ := kidsOf ht5
    have hk1 : 1 ≤ k := hg.1
    rw [show Value.agg (reL k s mn mx g (.slice q ts.length cc)).toArray = .agg #[.int .i64 k, .int .u64 s.a, .int .u64 s.b, .int .u64 s.c, .int .u64 s.d, .int .i64 mn, .int .i64 mx, .int .i64 g, .slice q ts.length cc] from rfl, fld36_0, reads_ge, boolV_bool]
    refine bcase_of (fun hc => ?_) (fun hc => by have := of_decide_eq_false hc; omega)
    exact fin (f04.trans (Fm.lift (n := h.size) (r := h.size) f5 (by omega) (by omega)))
  · have s1 := f1.size
    have g1 := gl.fm f1 hn hn
    rw [reads_ext0, reads_ext1]
    refine tell_spec g1 (by omega) he hc1 (by omega) fun h2' f2 => ?_
    have s2 := f2.size
    have f02 := f1.trans (Fm.lift (n := h.size) (r := h.size) f2 (by omega) (by omega))
    refine alloc_rule Tryz.zero42 fun h3 a3 => ?_
    have s3 := a3.size
    refine storeFull a3.at_ (xs := #[.int .i64 code, .int .i64 pos, .int .i64 ((if ext then 4 else 3 : Nat))]) Tryz.size42 rfl flat3 fun h4 u4 => ?_
    have s4 := u4.size
    have f04 : Fm h.size h.size h h4 := f02.trans ((Fm.al a3 (by omega)).trans (Fm.upd u4 (.inl (by omega))))
    have hb4 := hb.frame fun b o k hv => f04.same b (hbl b o _ k hv) (by have := hbl b o _ k hv; omega)
    have b4 := u4.same
    obtain ⟨ta, va, rfl⟩ := he.ifc
    rw [Tryz.neq26_s, boolV_bool, bcase_true]
    refine Join1.intro (fun v h' => h' = h4 ∧ v = .int .i64 ((if ext then 4 else 3 : Nat))) ?_ ?_
    · rw [boolV_bool]
      cases ext
      · exact ⟨rfl, rfl⟩
      · exact ⟨rfl, rfl⟩
    rintro v h5 ⟨rfl, rfl⟩
    rw [Tryz.eql24_n, boolV_bool, bcase_true, Tryz.fa42_2, addr_add, Nat.zero_add, pLoad_one (v := .int .i64 ((if ext then 4 else 3 : Nat))) Tryz.agg3 (by rw [hcell_of b4]; rfl), reads_eq, boolV_bool]
    refine bcase_of (fun _ => ?_) (fun hc => by simp at hc)
    rw [Tryz.fa42_1, addr_add, Nat.zero_add, pLoad_one (v := .int .i64 pos) Tryz.agg3 (by rw [hcell_of b4]; rfl), reads_ge, boolV_bool]
    refine bcase_of (fun _ => ?_) (fun hc => by have := of_decide_eq_false hc; omega)
    rw [Tryz.fa42_1, addr_add, Nat.zero_add, pLoad_one (v := .int .i64 pos) Tryz.agg3 (by rw [hcell_of b4]; rfl), reads_blen hb4 Tryz.underlying29, reads_le, boolV_bool]
    refine bcase_of (fun _ => ?_) (fun hc => by have := of_decide_eq_false hc; omega)
    rw [Tryz.fa42_0, addr_add, pLoad_one (v := .int .i64 code) Tryz.agg3 (by rw [hcell_of b4]; rfl), reads_ne, boolV_bool]
    refine bcase_of (fun _ => ?_) (fun hc => by simp at hc; omega)
    rw [Tryz.fa42_0, addr_add, pLoad_one (v := .int .i64 code) Tryz.agg3 (by rw [hcell_of b4]; rfl), reads_eq, reads_blen hb4 Tryz.underlying29, reads_gt, reads_eqB, boolV_bool]
    refine bcase_of (fun _ => ?_) (fun hc => ?_)
    · exact fin f04
    · exfalso
      have hc := of_decide_eq_false hc
      apply hc
      apply decide_eq_decide.2
      omega
end Rt
end Go.Proofs
