/- A part of the proofs over this seat: Txt. -/
import Derived.Test.YthlncmkeccgfeaaGreatDoorEqs
import Derived.Lib.Builder
import Derived.Lib.AppendStr
import Derived.Lib.UnsafeStr
set_option linter.unusedVariables false
set_option linter.unusedSimpArgs false
set_option maxRecDepth 100000
namespace Go.Proofs
open Go.Vcg
namespace Rt
attribute [local congr] Reads.congr ReadsS.congr pLoad.congr pLoadS.congr pStore.congr Runs.congr CallsH.congr bcase.congr boolV.congr Stable.congr pAlloc.congr
mutual
def sameT : T → T → Bool
  | .node k s mn mx g ts, .node k' s' mn' mx' g' us => decide (k = k') && (decide (s = s') && (decide (mn = mn') && (decide (mx = mx') && (decide (g = g') && sameL ts us))))
def sameL : List T → List T → Bool
  | [], [] => true
  | t :: ts, u :: us => sameT t u && sameL ts us
  | _, _ => false
end
theorem sameL_len : ∀ {ts us : List T}, ts.length ≠ us.length → sameL ts us = false
  | [], [], h => absurd rfl h
  | [], _ :: _, _ => by unfold sameL; rfl
  | _ :: _, [], _ => by unfold sameL; rfl
  | t :: ts, u :: us, h => by unfold sameL; rw [sameL_len (by simpa using h)]; simp

theorem kidsOf {h : Heap} {Q : Nat → Prop} {k g : Nat} {s : W4} {mn mx : Int} {ts : List T} {vs : List Value} (ht : IsRe h Q (.node k s mn mx g ts) vs) : ∃ q c, vs = reL k s mn mx g (.slice q ts.length c) ∧
    (ts ≠ [] → ∃ b cur, q = some ⟨b, 0, none⟩ ∧ ts.length * 9 ≤ cur.size ∧ h[b]? = some (.cells cur 36 (0, 0)) ∧ IsRow h Q ts (cur.toList.take (ts.length * 9))) := by
  simp only [IsRe] at ht
  obtain ⟨kv, rfl, hk⟩ := ht
  rcases hk with ⟨rfl, rfl⟩ | ⟨b, cap, cur, hQ, rfl, h1, h2, h3, h4⟩
  · exact ⟨none, 0, rfl, fun h => absurd rfl h⟩
  · exact ⟨_, _, rfl, fun _ => ⟨b, cur, rfl, h2, h3, h4⟩⟩

theorem same_spec : ∀ (m : Nat) {h : Heap} {Q Q' : Nat → Prop} {t u : T} {vs ws : List Value} {R : Value → Heap → Prop} {E : List PanicEntry → Heap → Prop}, szT t ≤ m → szT t ≤ 1000000 → IsRe h Q t vs → IsRe h Q' u ws →
    (∀ h', Fm h.size h.size h h' → R (.bool (sameT t u)) h') → CallsH Tryz.prog 14 #[.agg vs.toArray, .agg ws.toArray] h R E := by
  intro m
  induction m with
  | zero => intro h Q Q' t u vs ws R E hm; cases t; simp [szT] at hm
  | succ m ih =>
    intro h Q Q' t u vs ws R E hm hm0 ht hu hk
    cases t with
    | node k s mn mx g ts =>
    cases u with
    | node k' s' mn' mx' g' us =>
    have hlen : ts.length ≤ 1000000 := by
      have := szL_len ts
      simp only [szT] at hm0
      omega
    obtain ⟨q, cc, rfl, hts⟩ := kidsOf ht
    obtain ⟨q', cc', rfl, hus⟩ := kidsOf hu
    unfold sameT at hk
    refine C14 ?_
    unfold S14
    refine new_rule fun h1 a1 => new_rule fun h2 a2 => ?_
    have s1 := a1.size
    have s2 := a2.size
    have f2 : Fm h.size h.size h h2 := (Fm.al a1 (Nat.le_refl _)).trans (Fm.al a2 (by omega))
    have b1 : h2[h.size]? = some (.cells (reL k s mn mx g (.slice q ts.length cc)).toArray 36 (0, 0)) := (a2.old h.size (by omega)).trans a1.at_
    have b2 : h2[h1.size]? = some (.cells (reL k' s' mn' mx' g' (.slice q' us.length cc')).toArray 36 (0, 0)) := a2.at_
    -- what is read of the two
    have l0 : ∀ {K : Value → Prop} {hh : Heap}, hh[h.size]? = h2[h.size]? → pLoad Tryz.prog 3 (.pointer (some ⟨h.size, 0, none⟩)) hh K = K (.int .i64 k) := fun e => pLoad_one Tryz.agg3 (by rw [hcell_of (e.trans b1)]; rfl)
    refine Join0.intro (fun h' => h' = h2 ∧ ts.length = us.length ∧ (∀ h', Fm h.size h.size h h' → R (.bool (sameL ts us)) h')) ?_ ?_
    · rw [Tryz.fa36_0, addr_add, pLoad_one (v := .int .i64 k) Tryz.agg3 (by rw [hcell_of b1]; rfl), Tryz.fa36_0, addr_add, pLoad_one (v := .int .i64 k') Tryz.agg3 (by rw [hcell_of b2]; rfl), reads_ne, dec_nn_eq, boolV_bool]
      refine bcase_of (fun hc => ?_) (fun hc => ?_)
      · have e : decide (k = k') = false := by simpa using hc
        rw [e] at hk
        exact hk h2 f2
      have e : decide (k = k') = true := by simpa using hc
      rw [e, Bool.true_and] at hk
      clear hc e
      rw [Tryz.fa36_1, addr_add, Nat.zero_add]
      refine load_row b1 Tryz.agg33 (by simp [reL]) ?_
      rw [Tryz.fa36_1, addr_add, Nat.zero_add]
      refine load_row b2 Tryz.agg33 (by simp [reL]) ?_
      have ev : ∀ (k : Nat) (s : W4) (mn mx : Int) (g : Nat) (kv : Value), (((reL k s mn mx g kv).toArray.toList.drop 1).take 4).toArray = s.vals.toArray := fun _ _ _ _ _ _ => rfl
      rw [ev, ev, reads_neqSet, boolV_bool]
      refine bcase_of (fun hc => ?_) (fun hc => ?_)
      · have e : decide (s = s') = false := by simpa using hc
        rw [e] at hk
        exact hk h2 f2
      have e : decide (s = s') = true := by simpa using hc
      rw [e, Bool.true_and] at hk
      clear hc e
      rw [Tryz.fa36_2, addr_add, Nat.zero_add, pLoad_one (v := .int .i64 mn) Tryz.agg3 (by rw [hcell_of b1]; rfl), Tryz.fa36_2, addr_add, Nat.zero_add, pLoad_one (v := .int .i64 mn') Tryz.agg3 (by rw [hcell_of b2]; rfl), reads_ne, boolV_bool]
      refine bcase_of (fun hc => ?_) (fun hc => ?_)
      · have e : decide (mn = mn') = false := by simpa using hc
        rw [e] at hk
        exact hk h2 f2
      have e : decide (mn = mn') = true := by simpa using hc
      rw [e, Bool.true_and] at hk
      clear hc e
      rw [Tryz.fa36_3, addr_add, Nat.zero_add, pLoad_one (v := .int .i64 mx) Tryz.agg3 (by rw [hcell_of b1]; rfl), Tryz.fa36_3, addr_add, Nat.zero_add, pLoad_one (v := .int .i64 mx') Tryz.agg3 (by rw [hcell_of b2]; rfl), reads_ne, boolV_bool]
      refine bcase_of (fun hc => ?_) (fun hc => ?_)
      · have e : decide (mx = mx') = false := by simpa using hc
        rw [e] at hk
        exact hk h2 f2
      have e : decide (mx = mx') = true := by simpa using hc
      rw [e, Bool.true_and] at hk
      clear hc e
      rw [Tryz.fa36_4, addr_add, Nat.zero_add, pLoad_one (v := .int .i64 g) Tryz.agg3 (by rw [hcell_of b1]; rfl), Tryz.fa36_4, addr_add, Nat.zero_add, pLoad_one (v := .int .i64 g') Tryz.agg3 (by rw [hcell_of b2]; rfl), reads_ne, dec_nn_eq, boolV_bool]
      refine bcase_of (fun hc => ?_) (fun hc => ?_)
      · have e : decide (g = g') = false := by simpa using hc
        rw [e] at hk
        exact hk h2 f2
      have e : decide (g = g') = true := by simpa using hc
      rw [e, Bool.true_and] at hk
      clear hc e
      rw [Tryz.fa36_5, addr_add, Nat.zero_add, pLoad_one (v := .slice q ts.length cc) Tryz.agg34 (by rw [hcell_of b1]; rfl), reads_rlen Tryz.underlying34, Tryz.fa36_5, addr_add, Nat.zero_add, pLoad_one (v := .slice q' us.length cc') Tryz.agg34 (by rw [hcell_of b2]; rfl), reads_rlen Tryz.underlying34, reads_ne, dec_nn_eq, boolV_bool]
      refine bcase_of (fun hc => ?_) (fun hc => ?_)
      · have e : ts.length ≠ us.length := by simpa using hc
        rw [sameL_len e] at hk
        exact hk h2 f2
      · exact ⟨rfl, by simpa using hc, hk⟩
    · rintro h3 ⟨rfl, hl, hk⟩
      rw [Tryz.fa36_5, addr_add, Nat.zero_add, pLoad_one (v := .slice q ts.length cc) Tryz.agg34 (by rw [hcell_of b1]; rfl), reads_rlen Tryz.underlying34]
      refine Loop1.fuel (fun k a h' => ∃ i, i ≤ ts.length ∧ k = ts.length - i ∧ a = .int .i64 i ∧ Fm h3.size h3.size h3 h' ∧ sameL ts us = sameL (ts.drop i) (us.drop i)) (n := ts.length) ⟨0, by omega, by simp, rfl, Fm.refl .., by simp⟩ fun k a h4 hi => ?_
      obtain ⟨i, hi, rfl, rfl, f4, hd⟩ := hi
      have s4 := f4.size
      have f24 : Fm h.size h.size h h4 := f2.trans ⟨f4.size, fun k hk _ => f4.same k (by omega) (by omega)⟩
      rw [reads_lt, boolV_bool]
      refine bcase_of (fun hc => ?_) (fun hc => ?_)
      · have hlt : i < ts.length := by have := of_decide_eq_true hc; omega
        have hlu : i < us.length := by omega
        obtain ⟨bk, cur, rfl, hcur, hbk, hrow⟩ := hts (by rintro rfl; simp at hlt)
        obtain ⟨bk', cur', rfl, hcur', hbk', hrow'⟩ := hus (by rintro rfl; simp at hlu)
        have c1 := (f4.same h.size (by omega) (by omega)).trans b1
        have c2 := (f4.same h1.size (by omega) (by omega)).trans b2
        have d1 := (f24.same bk (at_lt hbk) (by have := at_lt hbk; omega)).trans hbk
        have d2 := (f24.same bk' (at_lt hbk') (by have := at_lt hbk'; omega)).trans hbk'
        have htk : IsRe h Q ts[i] ((cur.toList.drop (i * 9)).take 9) := by
          have := hrow.get hlt
          rwa [take_drop9 hlt] at this
        have huk : IsRe h Q' us[i] ((cur'.toList.drop (i * 9)).take 9) := by
          have := hrow'.get hlu
          rwa [take_drop9 hlu] at this
        rw [Tryz.fa36_5, addr_add, Nat.zero_add, pLoad_one (v := .slice (some ⟨bk, 0, none⟩) ts.length cc) Tryz.agg34 (by rw [hcell_of c1]; rfl), reads_idxRow Tryz.underlying34 Tryz.size36 hlt, addr_add, Nat.zero_add]
        refine load_row d1 Tryz.agg36 (by omega) ?_
        rw [Tryz.fa36_5, addr_add, Nat.zero_add, pLoad_one (v := .slice (some ⟨bk', 0, none⟩) us.length cc') Tryz.agg34 (by rw [hcell_of c2]; rfl), reads_idxRow Tryz.underlying34 Tryz.size36 hlu, addr_add, Nat.zero_add]
        refine load_row d2 Tryz.agg36 (by omega) ?_
        refine ⟨?_, trivial⟩
        have hsz : szT ts[i] ≤ szL ts := szL_get hlt
        refine ih (by simp only [szT] at hm; omega) (by simp only [szT] at hm0; omega) (htk.frame (Q' := fun _ => True) fun b hb hlt => ⟨trivial, f24.same b hlt (by omega)⟩) (huk.frame (Q' := fun _ => True) fun b hb hlt => ⟨trivial, f24.same b hlt (by omega)⟩) fun h5 f5 => ?_
        have s5 := f5.size
        refine ⟨trivial, ?_⟩
        have hcons : sameL (ts.drop i) (us.drop i) = (sameT ts[i] us[i] && sameL (ts.drop (i + 1)) (us.drop (i + 1))) := by
          rw [List.drop_eq_getElem_cons hlt, List.drop_eq_getElem_cons hlu]
          simp only [sameL]
        rw [reads_not, boolV_bool]
        refine bcase_of (fun hs => ?_) (fun hs => ?_)
        · have e : sameT ts[i] us[i] = false := by simpa using hs
          rw [hd, hcons, e, Bool.false_and] at hk
          exact hk h5 (f24.trans ⟨f5.size, fun k hk _ => f5.same k (by omega) (by omega)⟩)
        · have e : sameT ts[i] us[i] = true := by simpa using hs
          rw [reads_add, wrap_n1 _ (by omega)]
          refine ⟨ts.length - (i + 1), by omega, i + 1, by omega, rfl, rfl, f4.trans ⟨f5.size, fun k hk _ => f5.same k (by omega) (by omega)⟩, ?_⟩
          rw [hd, hcons, e, Bool.true_and]
      · have hil : i = ts.length := by have := of_decide_eq_false hc; omega
        have e : sameL (ts.drop i) (us.drop i) = true := by
          rw [hil, List.drop_length, hl, List.drop_length]
          simp only [sameL]
        rw [hd, e] at hk
        exact hk h4 f24
end Rt
end Go.Proofs

set_option maxRecDepth 100000
namespace Go.Proofs
open Go.Vcg
namespace Rt
def awakeText : List UInt8 := [40, 97, 124, 98, 41, 43]
def awakeTree : T := .node 6 .zero 1 (-1) 0 [.node 7 .zero 0 0 1 [.node 5 .zero 0 0 0 [single 97, single 98]]]
theorem awake_model : wholeM 20 awakeText true = .ok (awakeTree, 6, 1) := by
  with_unfolding_all rfl
end Rt
end Go.Proofs

set_option maxRecDepth 100000
namespace Go.Proofs
open Go.Vcg
namespace Rt
variable {n b : Nat} {h : Heap} {l : List UInt8} {R : Value → Heap → Prop} {E : List PanicEntry → Heap → Prop}
theorem cv85_91 {x y : Value} {k : Value → Prop} (hb : h[b]? = some (.cells #[x, y] 87 (0, 0))) : Reads Tryz.prog (convert 85 91 (ptr b)) h k = k (ptr b) := reads_of fun w hw => by
  subst hw
  have hi : ∃ j, Tryz.prog.info? 87 = some j ∧ j.size ≠ 0 := by
    have h2 : sizeT Tryz.prog 87 = some 2 := by kernel_rfl
    unfold sizeT at h2
    split at h2
    · rename_i i hi; exact ⟨i, hi, by simp at h2; omega⟩
    · cases h2
  obtain ⟨j, hj, h0⟩ := hi
  exact Go.Lib.run_to_unsafe w ⟨b, 0, none⟩ Tryz.underlying85 Tryz.underlying91 hj h0 (e := 87) (cells := 2) (by simp [World.shape?, hb]) (by simp)
theorem cv91_85 {x y : Value} {k : Value → Prop} (hb : h[b]? = some (.cells #[x, y] 87 (0, 0))) : Reads Tryz.prog (convert 91 85 (ptr b)) h k = k (ptr b) := reads_of fun w hw => by
  subst hw
  have hi : ∃ j, Tryz.prog.info? 87 = some j := by
    have h2 : sizeT Tryz.prog 87 = some 2 := by kernel_rfl
    unfold sizeT at h2
    split at h2
    · rename_i i hi; exact ⟨i, hi⟩
    · cases h2
  obtain ⟨j, hj⟩ := hi
  exact Go.Lib.run_from_unsafe w ⟨b, 0, none⟩ Tryz.underlying91 Tryz.underlying85 hj (e := 87) (cells := 2) (by simp [World.shape?, hb]) (by kernel_rfl)
theorem noescape_spec {x : Value} {K : Value → Heap → Prop} (hk : K x h) : Runs Tryz.prog (do let d ← Deferred.ofValue (.func (.func 112) #[] #[]) #[x]; invoke d.target d.args) h K E := by
  intro w hw
  subst hw
  have hr := run_callFunc_extern (P := Tryz.prog) (f := 112) (fn := Tryz.f112) (e := Extern.AbiNoEscape.same) Tryz.func112 (by kernel_rfl) (by kernel_rfl) (by kernel_rfl) (by kernel_rfl) #[x] w
  rw [Go.Lib.run_noEscape] at hr
  simp [Deferred.ofValue, invoke, hr, uponH, Same.refl]
  exact hk

/-- a strings.Builder at block b, which holds the bytes l -/
def SB (h : Heap) (n b : Nat) (l : List UInt8) : Prop := b < n ∧ ∃ p v, (p = .pointer none ∨ p = ptr b) ∧ h[b]? = some (.cells #[p, v] 87 (0, 0)) ∧ ByteRow h n v l
/-- all but a builder's own blocks: what is no row of bytes stays -/
structure Fq (b : Nat) (h h' : Heap) : Prop where
  size : h.size ≤ h'.size
  same : ∀ k, k < h.size → k ≠ b → (∀ cur, h[k]? ≠ some (.cells cur 5 (0, 0))) → h'[k]? = h[k]?
theorem Fq.refl (b : Nat) (h : Heap) : Fq b h h := ⟨Nat.le_refl _, fun _ _ _ _ => rfl⟩
theorem Fq.trans {b : Nat} {h h' h'' : Heap} (x : Fq b h h') (y : Fq b h' h'') : Fq b h h'' := by
  refine ⟨Nat.le_trans x.size y.size, fun k hk hb h5 => ?_⟩
  have e := x.same k hk hb h5
  exact (y.same k (Nat.lt_of_lt_of_le hk x.size) hb (by rw [e]; exact h5)).trans e
theorem Fq.of {b m : Nat} {h h' : Heap} (f : Fm h.size m h h') (hm : h.size ≤ m) : Fq b h h' := ⟨f.size, fun k hk _ _ => f.same k hk (by omega)⟩
theorem Fq.upd {b : Nat} {h h' : Heap} {o : Obj} (u : Upd h h' b o) : Fq b h h' := ⟨by rw [u.size]; exact Nat.le_refl _, fun k _ hb _ => u.other k hb⟩
theorem Fq.al {b : Nat} {h h' : Heap} {o : Obj} (a : Al h h' o) : Fq b h h' := ⟨by rw [a.size]; omega, fun k hk _ _ => a.old k hk⟩
theorem Fq.grown {b : Nat} {h h' : Heap} {v : Value} (g : GrownH h h' v.ownBlock) (hr : ByteRow h n v l) : Fq b h h' := by
  refine ⟨g.size, fun k hk _ h5 => g.block k hk ?_⟩
  intro e
  rcases hr.2 with ⟨rfl, _⟩ | ⟨g', cap, cur, rfl, e2, e3, _⟩
  · cases e
  · have : k = g' := by simpa [Value.ownBlock] using e
    subst this
    exact h5 cur e3
theorem eq85 {k : Value → Prop} : Reads Tryz.prog (binS .neq 85 false (ptr b) (ptr b)) h k = k (.bool false) := reads_of fun w hw => by
  have hi : ∃ j, Tryz.prog.info? 87 = some j := by
    have h2 : sizeT Tryz.prog 87 = some 2 := by kernel_rfl
    unfold sizeT at h2
    split at h2
    · rename_i i hi; exact ⟨i, hi⟩
    · cases h2
  obtain ⟨j, hj⟩ := hi
  have := Go.Lib.run_neq_ptr_same w ⟨b, 0, none⟩ Tryz.underlying85 hj
  simp only [binS, guardS, ptr]
  simpa using this
theorem ByteRow.frame {h' : Heap} {v : Value} (k : ByteRow h n v l) (hs : ∀ b, n ≤ b → b < h.size → h'[b]? = h[b]?) : ByteRow h' n v l := by
  obtain ⟨h1, h2⟩ := k
  refine ⟨h1, h2.imp id ?_⟩
  rintro ⟨g, cap, cur, e1, e2, e3, e4⟩
  exact ⟨g, cap, cur, e1, e2, (hs g e2 (at_lt e3)).trans e3, e4⟩
theorem copy_spec {v : Value} {p : Value} (hp : p = .pointer none ∨ p = ptr b) (hb : h[b]? = some (.cells #[p, v] 87 (0, 0)))
    (hk : ∀ h', h'.size = h.size → (∀ k, k ≠ b → h'[k]? = h[k]?) → h'[b]? = some (.cells #[ptr b, v] 87 (0, 0)) → R (.tuple #[]) h') : CallsH Tryz.prog 97 #[ptr b] h R E := by
  refine C97 ?_
  unfold S97
  rw [reads_nil, Tryz.fa87_0, addr_add, pLoad_one (v := p) Tryz.agg85 (by rw [hcell_of hb]; rfl)]
  rcases hp with rfl | rfl
  · rw [Tryz.eql85_n, boolV_bool, bcase_true, cv85_91 hb]
    refine noescape_spec ?_
    rw [cv91_85 hb, reads_nil, Tryz.fa87_0, addr_add]
    refine store1 hb Tryz.size85 rfl (by simp) fun h' hu => hk h' hu.size hu.other hu.same
  · rw [Tryz.eql85_s, boolV_bool, bcase_false, reads_nil, Tryz.fa87_0, addr_add, pLoad_one (v := ptr b) Tryz.agg85 (by rw [hcell_of hb]; rfl), eq85, boolV_bool, bcase_false]
    exact hk h rfl (fun _ _ => rfl) hb
theorem push_byteq {v : Value} {c : UInt8} {K : Value → Heap → Prop} (b : ByteRow h n v l) (hn : n ≤ h.size) (hlen : l.length ≤ 1000000000) (hK : ∀ v' h', ByteRow h' n v' (l ++ [c]) → (∀ r, Fm n r h h') → (∀ r, Fq r h h') → K v' h') :
    Runs Tryz.prog (vS (Instr.buildSlice 29 1 #[(0, .int .u8 c.toNat)])) h (fun s h1 => Runs Tryz.prog (builtin .append #[29, 29] 29 #[false, false] #[v, s]) h1 K E) E := by
  refine slice1_rule Tryz.info5 Tryz.underlying29 rfl (by omega) (by omega) fun h1 a1 => ?_
  have s1 := a1.size
  have ho : Owns h1 n 5 1 v l.length (l.map bval) := by
    obtain ⟨hl, ho⟩ := b
    refine ⟨hl, ho.imp id ?_⟩
    rintro ⟨g, cap, cur, e1, e2, e3, e4⟩
    exact ⟨g, cap, cur, e1, e2, (a1.old g (at_lt e3)).trans e3, e4⟩
  refine runs_append' (size := 1) (bytes := 1) (news := [bval c]) Tryz.info5 Tryz.underlying29 rfl (by omega) ho rfl ?_ ?_ (by simp [maxLen]; omega) (by omega) (by omega) fun v' h2 ho' hg hnil hat => ?_
  · intro j u hj
    rw [addr_add, Nat.zero_add, hcell_of a1.at_]
    simpa [Value.cells, bval] using hj
  · intro u hu
    simp only [List.mem_cons, List.not_mem_nil, or_false] at hu
    subst hu
    rfl
  · refine hK v' h2 ?_ (fun r => ?_) fun r => (Fq.al a1).trans (Fq.grown hg ho)
    · unfold ByteRow
      simpa using ho'
    · refine ⟨by have := hg.size; omega, fun k hk _ => ?_⟩
      rw [hg.block k (by omega) ?_, a1.old k (by omega)]
      intro e
      rcases ho.2 with ⟨rfl, _⟩ | ⟨g, cap, cur, rfl, e2, _⟩
      · cases e
      · have : k = g := by simpa [Value.ownBlock] using e
        omega
theorem wbyte_spec {c : UInt8} (hs : SB h n b l) (hn : n ≤ h.size) (hl : l.length ≤ 1000000) (hk : ∀ h', SB h' n b (l ++ [c]) → Fm n b h h' → Fq b h h' → R .nilIface h') : CallsH Tryz.prog 70 #[ptr b, .int .u8 c.toNat] h R E := by
  obtain ⟨hbn, p, v, hp, hb, hr⟩ := hs
  refine C70 ?_
  unfold S70
  refine copy_spec hp hb fun h1 s1 o1 b1 => ?_
  have r1 : ByteRow h1 n v l := hr.frame fun k h1 h2 => o1 k (by omega)
  rw [reads_nil, Tryz.fa87_1, addr_add, Nat.zero_add, pLoad_one (v := v) Tryz.agg29 (by rw [hcell_of b1]; rfl)]
  refine push_byteq (c := c) r1 (by omega) (by omega) fun v' h2 r2 f2 q2 => ?_
  have b2 := ((f2 h2.size).same b hbn (by have := (f2 0).size; omega)).trans b1
  rw [reads_nil, Tryz.fa87_1, addr_add, Nat.zero_add]
  have hv : flat v' = true := by
    rcases r2.2 with ⟨rfl, _⟩ | ⟨g, cap, cur, rfl, _⟩ <;> rfl
  refine store1 b2 Tryz.size29 hv (by simp) fun h3 hu3 => ?_
  have f1 : Fm n b h h1 := ⟨by omega, fun k _ hkb => o1 k hkb⟩
  refine hk h3 ⟨hbn, ptr b, v', .inr rfl, hu3.same, r2.frame fun k h1 h2 => hu3.other k (by omega)⟩ ?_ ?_
  · exact (f1.trans (f2 b)).trans (Fm.upd hu3 (.inr rfl))
  · exact (Fq.trans ⟨by omega, fun k hk hb _ => o1 k hb⟩ (q2 b)).trans (Fq.upd hu3)
theorem blen_spec (hs : SB h n b l) (hk : R (.int .i64 l.length) h) : CallsH Tryz.prog 99 #[ptr b] h R E := by
  obtain ⟨hbn, p, v, hp, hb, hr⟩ := hs
  refine C99 ?_
  unfold S99
  rw [reads_nil, Tryz.fa87_1, addr_add, Nat.zero_add, pLoad_one (v := v) Tryz.agg29 (by rw [hcell_of hb]; rfl), reads_blen hr.is Tryz.underlying29]
  exact hk
theorem push_str {v : Value} {x : List UInt8} {cs : Array Bool} {K : Value → Heap → Prop} (r : ByteRow h n v l) (hn : n ≤ h.size) (hl : l.length ≤ 1000000) (hx : x.length ≤ 1000000) (hK : ∀ v' h', ByteRow h' n v' (l ++ x) → (∀ r, Fm n r h h') → (∀ r, Fq r h h') → K v' h') :
    Runs Tryz.prog (builtin .append #[29, 9] 29 cs #[v, str x]) h K E := by
  obtain ⟨i, hi, hz, hsize, hby⟩ := Tryz.info5
  intro w hw
  subst hw
  have hsz : (⟨x.toArray⟩ : ByteArray).size = x.length := by simp [ByteArray.size]
  obtain ⟨v', w', hr, ho, hg, hnil⟩ := Go.Lib.run_append_own_string (P := Tryz.prog) w n 29 9 29 5 i Tryz.underlying29 Tryz.underlying9 hi hz hsize hby v l.length (l.map bval) r ⟨x.toArray⟩ (by rw [hsz]; simp [maxLen]; omega) (by rw [hsz]; omega) hn
  have hcells : Go.Lib.strCells ⟨x.toArray⟩ = x.map bval := by simp [Go.Lib.strCells, bval]
  rw [hsz, hcells] at ho
  unfold str
  simp only [builtin, Sem.run_bind, hr, Result.andThen_ok, Sem.run_pure, uponH]
  refine ⟨⟨hg.os, hg.tape, hg.output⟩, hK v' w'.heap ?_ (fun q => ⟨hg.size, fun k hk _ => hg.block k (by omega) ?_⟩) fun q => Fq.grown ⟨hg.size, hg.block⟩ r⟩
  · unfold ByteRow
    rw [List.length_append, List.map_append]
    exact ho
  · intro e
    rcases r.2 with ⟨rfl, _⟩ | ⟨g, cap, cur, rfl, e2, _⟩
    · cases e
    · have : k = g := by simpa [Value.ownBlock] using e
      omega
theorem wstr_spec {x : List UInt8} (hs : SB h n b l) (hn : n ≤ h.size) (hl : l.length ≤ 1000000) (hx : x.length ≤ 1000000) (hk : ∀ h' v, SB h' n b (l ++ x) → Fm n b h h' → Fq b h h' → R v h') : CallsH Tryz.prog 67 #[ptr b, str x] h R E := by
  obtain ⟨hbn, p, v, hp, hb, hr⟩ := hs
  refine C67 ?_
  unfold S67
  refine copy_spec hp hb fun h1 s1 o1 b1 => ?_
  have r1 : ByteRow h1 n v l := hr.frame fun k h1 h2 => o1 k (by omega)
  rw [reads_nil, Tryz.fa87_1, addr_add, Nat.zero_add, pLoad_one (v := v) Tryz.agg29 (by rw [hcell_of b1]; rfl)]
  refine push_str r1 (by omega) hl hx fun v' h2 r2 f2 q2 => ?_
  have b2 := ((f2 h2.size).same b hbn (by have := (f2 0).size; omega)).trans b1
  rw [reads_nil, Tryz.fa87_1, addr_add, Nat.zero_add]
  have hv : flat v' = true := by
    rcases r2.2 with ⟨rfl, _⟩ | ⟨g, cap, cur, rfl, _⟩ <;> rfl
  refine store1 b2 Tryz.size29 hv (by simp) fun h3 hu3 => ?_
  rw [reads_slen Tryz.underlying9]
  have f1 : Fm n b h h1 := ⟨by omega, fun k _ hkb => o1 k hkb⟩
  exact hk h3 _ ⟨hbn, ptr b, v', .inr rfl, hu3.same, r2.frame fun k h1 h2 => hu3.other k (by omega)⟩ ((f1.trans (f2 b)).trans (Fm.upd hu3 (.inr rfl))) ((Fq.trans ⟨by omega, fun k hk hb _ => o1 k hb⟩ (q2 b)).trans (Fq.upd hu3))
theorem string_spec (hs : SB h n b l) (h0 : l ≠ []) (hl : l.length ≤ 1000000) (hk : ∀ h', h'.size = h.size → (∀ k, k < n → h'[k]? = h[k]?) → R (str l) h') : CallsH Tryz.prog 45 #[ptr b] h R E := by
  obtain ⟨hbn, p, v, hp, hb, hr⟩ := hs
  have his := hr.is
  obtain ⟨hlen, ho⟩ := hr
  rcases ho with ⟨_, hz⟩ | ⟨g, cap, cur, rfl, e2, e3, e4, e5, e6, e7⟩
  · exact absurd (List.length_eq_zero_iff.1 hz) h0
  have hl0 : l.length ≠ 0 := fun e => h0 (List.length_eq_zero_iff.1 e)
  refine C45 ?_
  unfold S45
  rw [reads_nil, Tryz.fa87_1, addr_add, Nat.zero_add, pLoad_one (v := .slice (some ⟨g, 0, none⟩) l.length cap) Tryz.agg29 (by rw [hcell_of hb]; rfl)]
  rw [reads_pure (s := builtinS .unsafeSliceData #[29] 113 #[.slice (some ⟨g, 0, none⟩) l.length cap]) (v := .pointer (some ⟨g, 0, none⟩)) (fun w => Go.Lib.run_unsafeSliceData_row (P := Tryz.prog) w #[29] 113 ⟨g, 0, none⟩ l.length cap (by omega))]
  rw [reads_nil, Tryz.fa87_1, addr_add, Nat.zero_add, pLoad_one (v := .slice (some ⟨g, 0, none⟩) l.length cap) Tryz.agg29 (by rw [hcell_of hb]; rfl), reads_rlen Tryz.underlying29]
  refine ⟨?_, trivial⟩
  intro w hw
  subst hw
  have hat : ∀ j x, l[j]? = some x → w.cell? ((⟨g, 0, none⟩ : Addr).add j) = some (.int .u8 x.toNat) := by
    intro j x hj
    rw [cell_eq, addr_add, hcell_of e3]
    obtain ⟨hjl, rfl⟩ := List.getElem?_eq_some_iff.1 hj
    have : (cur.toList.take (l.length * 1))[j]? = (l.map bval)[j]? := by rw [e7]
    rw [List.getElem?_take, if_pos (by omega)] at this
    simpa [hjl, bval] using this
  have hr := Go.Lib.run_unsafeString_row (P := Tryz.prog) w 113 3 9 5 Tryz.underlying113 (by kernel_rfl) g cur.size (by simp [World.shape?, e3]) l h0 (by omega) (by omega) hat
  simp only [builtin, Sem.run_bind, hr, Result.andThen_ok, Sem.run_pure, uponH]
  unfold World.freeze
  rw [if_neg hl0]
  refine ⟨⟨rfl, rfl, rfl⟩, trivial, hk _ (by simp only [Array.size_modify]) fun k hk => ?_⟩
  have : g ≠ k := by omega
  simp only [Array.getElem?_modify, this, if_false]
end Rt
end Go.Proofs

set_option maxRecDepth 100000
namespace Go.Proofs
open Go.Vcg
namespace Rt
attribute [local congr] Reads.congr ReadsS.congr pLoad.congr pLoadS.congr pStore.congr Runs.congr CallsH.congr bcase.congr boolV.congr Stable.congr pAlloc.congr
variable {n b : Nat} {h : Heap} {l : List UInt8} {R : Value → Heap → Prop} {E : List PanicEntry → Heap → Prop}

/-! ### Numbers, written -/
def W4.word (s : W4) (i : Nat) : Nat := match i with | 0 => s.a | 1 => s.b | 2 => s.c | _ => s.d
def W4.has (s : W4) (c : UInt8) : Bool := (s.word (c.toNat / 64)).testBit (c.toNat % 64)
theorem W4.word_lt {s : W4} (hs : s.ok) (i : Nat) : s.word i < 2 ^ 64 := by
  obtain ⟨h1, h2, h3, h4⟩ := hs
  unfold W4.word
  split <;> assumption
theorem shr_word {x m : Nat} (hm : m < 64) : ((x : Int).fdiv (2 ^ (min ((m : Int)).toNat IntKind.u64.bits))) = ((x >>> m : Nat) : Int) := by
  have e0 : min ((m : Int)).toNat IntKind.u64.bits = m := by simp [IntKind.bits]; omega
  rw [e0, Nat.shiftRight_eq_div_pow, Int.fdiv_eq_ediv_of_nonneg _ (by exact Int.le_of_lt (Int.pow_pos (by omega)))]
  simp
theorem and1_64 {y : Nat} (hy : y < 2 ^ 64) : (BitVec.ofInt 64 (y : Int) &&& BitVec.ofInt 64 1).toNat = y % 2 := by
  rw [BitVec.toNat_and, BitVec.ofInt_natCast, BitVec.toNat_ofNat, Nat.mod_eq_of_lt hy]
  have : (BitVec.ofInt 64 1).toNat = 1 := by decide
  rw [this, Nat.and_one_is_mod]
theorem and15_8 {y : Nat} (hy : y < 256) : (BitVec.ofInt 8 (y : Int) &&& BitVec.ofInt 8 15).toNat = y % 16 := by
  rw [BitVec.toNat_and, BitVec.ofInt_natCast, BitVec.toNat_ofNat, Nat.mod_eq_of_lt hy]
  have : (BitVec.ofInt 8 15).toNat = 2 ^ 4 - 1 := by decide
  rw [this, Nat.and_two_pow_sub_one_eq_mod]
theorem has_spec {s : W4} {c : UInt8} (hs : s.ok) (hk : ∀ h', Fm h.size h.size h h' → R (.bool (s.has c)) h') : CallsH Tryz.prog 98 #[.agg s.vals.toArray, .int .u8 c.toNat] h R E := by
  refine C98 ?_
  unfold S98
  refine new_rule fun h1 a1 => ?_
  have hc : c.toNat / 64 < 4 := by have := c.toNat_lt; omega
  have hm : c.toNat % 64 < 64 := Nat.mod_lt _ (by omega)
  have hn : ¬ ((c.toNat % 64 : Nat) : Int) < 0 := by omega
  rw [reads_quo (by omega : (64 : Int) ≠ 0), u8_quo, reads_idxArr Tryz.underlying33 Tryz.size31 hc, addr_add, Nat.zero_add, Nat.mul_one]
  have hv : (Value.agg s.vals.toArray).cells[c.toNat / 64]? = some (.int .u64 (s.word (c.toNat / 64) : Int)) := by
    rcases (by omega : c.toNat / 64 = 0 ∨ c.toNat / 64 = 1 ∨ c.toNat / 64 = 2 ∨ c.toNat / 64 = 3) with e | e | e | e <;> rw [e] <;> rfl
  rw [pLoad_one (v := .int .u64 (s.word (c.toNat / 64) : Int)) Tryz.agg31 (by rw [hcell_of a1.at_]; exact hv), reads_rem (by omega : (64 : Int) ≠ 0), u8_rem, reads_shr hn, shr_word hm, reads_and, reads_eq]
  have := hk h1 (Fm.al a1 (Nat.le_refl _))
  have e : decide ((IntKind.u64.wrap ((BitVec.ofInt IntKind.u64.bits ((s.word (c.toNat / 64) >>> (c.toNat % 64) : Nat) : Int) &&& BitVec.ofInt IntKind.u64.bits 1).toNat)) = (1 : Int)) = s.has c := by
    unfold W4.has
    have hlt : s.word (c.toNat / 64) >>> (c.toNat % 64) < 2 ^ 64 := Nat.lt_of_le_of_lt (Nat.shiftRight_le _ _) (W4.word_lt hs _)
    generalize s.word (c.toNat / 64) = x at *
    generalize c.toNat % 64 = m at *
    have e1 : ((BitVec.ofInt IntKind.u64.bits ((x >>> m : Nat) : Int) &&& BitVec.ofInt IntKind.u64.bits 1)).toNat = (x >>> m) % 2 := and1_64 hlt
    rw [e1, wrap_u64 (by omega), Nat.testBit_eq_decide_div_mod_eq, Nat.shiftRight_eq_div_pow]
    by_cases hh : x / 2 ^ m % 2 = 1
    · rw [hh]; simp
    · rw [decide_eq_false hh, decide_eq_false (by omega)]
  rw [e]
  exact this

def digitOf (d : Nat) : UInt8 := (([48, 49, 50, 51, 52, 53, 54, 55, 56, 57, 97, 98, 99, 100, 101, 102] : List UInt8)[d]?).getD 0
def baseM (base : Nat) (n : Nat) : List UInt8 := if h : n < base ∨ base < 2 then [digitOf n] else baseM base (n / base) ++ [digitOf (n % base)]
  termination_by n
  decreasing_by exact Nat.div_lt_self (by omega) (by omega)
theorem baseM_step {base n : Nat} (hb : 2 ≤ base) : baseM base n = (if n / base = 0 then [] else baseM base (n / base)) ++ [digitOf (n % base)] := by
  rw [baseM]
  by_cases hn : n < base
  · rw [dif_pos (.inl hn), Nat.div_eq_of_lt hn, if_pos rfl, Nat.mod_eq_of_lt hn]; rfl
  · have : n / base ≠ 0 := by have := Nat.div_pos (Nat.le_of_not_lt hn) (by omega); omega
    rw [dif_neg (by omega), if_neg this]
theorem baseM_len {base : Nat} (hb : 2 ≤ base) : ∀ (k n : Nat), n < 2 ^ (k + 1) → (baseM base n).length ≤ k + 1 := by
  intro k
  induction k with
  | zero =>
    intro n hn
    rw [baseM, dif_pos (.inl (by omega))]; simp
  | succ k ih =>
    intro n hn
    rw [baseM_step hb]
    split
    · simp
    · have : n / base < 2 ^ (k + 1) := by
        have h1 : n / base ≤ n / 2 := Nat.div_le_div_left hb (by omega)
        have h2 : 2 ^ (k + 1 + 1) = 2 ^ (k + 1) * 2 := Nat.pow_succ ..
        omega
      have := ih _ this
      simp; omega

theorem reads_sindexK {P : Program} {t : TypeId} {K : IntKind} {a : List UInt8} {i : Nat} {k : Value → Prop} (ht : P.underlying t = some .string) (hi : i < a.length) : Reads P (Instr.index t (str a) (.int K i)) h k = k (.int .u8 a[i].toNat) := reads_pure fun _ => by
  have h1 : (⟨a.toArray⟩ : ByteArray)[i]? = some a[i] := by
    rw [getElem?_pos (⟨a.toArray⟩ : ByteArray) i (by simpa [ByteArray.size] using hi)]; rfl
  simp [Instr.index, asIntOf, str, Go.underlying, program, Sem.run, ht, h1]
theorem reads_arrFrom {P : Program} {t e : TypeId} {m i : Nat} {b : Nat} {k : Value → Prop} (ht : P.underlying t = some (.array m e)) (hs : sizeT P e = some 1) (hi : i < m) :
    Reads P (Instr.sliceAt t (ptr b) (some (.int .i64 i)) none none) h k = k (.slice (some ⟨b, i, none⟩) (m - i) (m - i)) := reads_pure fun w => by
  have h1 : i ≤ m := by omega
  have h2 : ¬ m = i := by omega
  have h3 : ¬ (m < i) := by omega
  simp [Instr.sliceAt, Instr.sliceBounds, Instr.sliceBound, Instr.sureAddr, asIntOf, ptr, Go.underlying, program, Sem.run, ht, size_run hs, h1, h2, h3, addr_add]
theorem digit_at {d : Nat} (hd : d < 16) : ∃ h : d < ([48, 49, 50, 51, 52, 53, 54, 55, 56, 57, 97, 98, 99, 100, 101, 102] : List UInt8).length, ([48, 49, 50, 51, 52, 53, 54, 55, 56, 57, 97, 98, 99, 100, 101, 102] : List UInt8)[d] = digitOf d := by
  refine ⟨by simpa using hd, ?_⟩
  unfold digitOf
  rw [List.getElem?_eq_getElem (by simpa using hd)]
  rfl
theorem base_spec {B N : Nat} (h2 : 2 ≤ B) (h16 : B ≤ 16) (hN : N < 2 ^ 64) (hk : ∀ h', Fm h.size h.size h h' → R (str (baseM B N)) h') : CallsH Tryz.prog 101 #[.int .u64 N, .int .i64 B, .bool false] h R E := by
  refine C101 ?_
  unfold S101
  refine Join0.intro (fun h' => h' = h) ?_ ?_
  · rw [reads_lt, boolV_bool, decide_eq_false (by omega), bcase_false, reads_gt, boolV_bool, decide_eq_false (by omega), bcase_false]
  rintro h1 rfl
  refine Join1.intro (fun v h' => v = str [48, 49, 50, 51, 52, 53, 54, 55, 56, 57, 97, 98, 99, 100, 101, 102] ∧ h' = h1) ?_ ?_
  · rw [boolV_bool, bcase_false]; exact ⟨rfl, rfl⟩
  rintro t7 h2' ⟨rfl, rfl⟩
  refine alloc_rule Tryz.zero156 fun h3 a3 => ?_
  have s3 := a3.size
  have hl64 : (baseM B N).length ≤ 64 := baseM_len h2 63 N hN
  refine Loop2.fuel (fun k a c h' => ∃ (m : Nat) (at_ : Nat) (suf : List UInt8) (cs : Array Value), k = m ∧ a = .int .u64 m ∧ c = .int .i64 at_ ∧ m < 2 ^ 64 ∧ at_ + suf.length = 64 ∧ baseM B N = baseM B m ++ suf ∧ Fm h2'.size h2'.size h2' h' ∧
    h'[h2'.size]? = some (.cells cs 156 (0, 0)) ∧ cs.size = 64 ∧ cs.toList.drop at_ = suf.map bval) (n := N) ⟨N, 64, [], _, rfl, rfl, rfl, hN, rfl, by simp, Fm.al a3 (Nat.le_refl _), a3.at_, by rfl, by rfl⟩ fun k a c h4 hi => ?_
  obtain ⟨m, at_, suf, cs, rfl, rfl, rfl, hm, hat, hbase, f4, hb4, hcs, hdrop⟩ := hi
  have hpos : 1 ≤ (baseM B k).length := by rw [baseM_step h2]; simp
  have hlen : (baseM B k).length + suf.length ≤ 64 := by rw [hbase] at hl64; simpa using hl64
  have hat1 : 1 ≤ at_ := by omega
  have hd : k % B < 16 := by have := Nat.mod_lt k (by omega : B > 0); omega
  obtain ⟨hd1, hd2⟩ := digit_at hd
  have hw : IntKind.u64.wrap (B : Int) = (B : Int) := wrap_u64 (by omega)
  have hB0 : (B : Int) ≠ 0 := by omega
  have em : (k : Int).tmod (B : Int) = ((k % B : Nat) : Int) := by rw [Int.tmod_eq_emod_of_nonneg (by omega)]; rfl
  have eq : IntKind.u64.wrap ((k : Int).tdiv (B : Int)) = ((k / B : Nat) : Int) := by
    rw [Int.tdiv_eq_ediv_of_nonneg (by omega)]
    have : (k : Int) / (B : Int) = ((k / B : Nat) : Int) := rfl
    rw [this, wrap_u64 (Nat.lt_of_le_of_lt (Nat.div_le_self _ _) hm)]
  rw [reads_sub, wrap_s1 _ hat1 (by omega), reads_conv_int Tryz.underlying3 Tryz.underlying31, hw, reads_rem hB0, em, reads_sindexK Tryz.underlying9 hd1, hd2, reads_idxArr Tryz.underlying156 Tryz.size5 (by omega : at_ - 1 < 64), addr_add, Nat.zero_add, Nat.mul_one]
  refine store1 hb4 Tryz.size5 rfl (by omega) fun h5 hu5 => ?_
  rw [reads_conv_int Tryz.underlying3 Tryz.underlying31, hw, reads_quo hB0, eq, reads_eq, boolV_bool]
  have f5 : Fm h2'.size h2'.size h2' h5 := f4.trans (Fm.upd hu5 (.inl (Nat.le_refl _)))
  have hdrop' : (cs.setIfInBounds (at_ - 1) (Value.int IntKind.u8 (digitOf (k % B)).toNat)).toList.drop (at_ - 1) = (digitOf (k % B) :: suf).map bval := by
    rw [Array.toList_setIfInBounds, List.drop_set, if_neg (by omega), Nat.sub_self]
    have e1 : cs.toList.drop (at_ - 1) = cs.toList[at_ - 1]'(by simp; omega) :: cs.toList.drop at_ := by
      rw [List.drop_eq_getElem_cons (by simp; omega)]
      congr 2
      omega
    rw [e1, hdrop]
    rfl
  refine bcase_of (fun hc => ?_) (fun hc => ?_)
  · have hz : k / B = 0 := by have := of_decide_eq_true hc; omega
    have hall : baseM B N = digitOf (k % B) :: suf := by rw [hbase, baseM_step h2, if_pos hz]; rfl
    rw [reads_arrFrom Tryz.underlying156 Tryz.size5 (by omega : at_ - 1 < 64)]
    have hby : IsBytes h5 (.slice (some ⟨h2'.size, at_ - 1, none⟩) (64 - (at_ - 1)) (64 - (at_ - 1))) (digitOf (k % B) :: suf) := by
      have e64 : 64 - (at_ - 1) = (digitOf (k % B) :: suf).length := by simp; omega
      rw [e64]
      refine .inr ⟨_, _, _, rfl, Nat.le_refl _, fun i hi => ?_⟩
      rw [hcell_of hu5.same]
      have := congrArg (fun l => l[i]?) hdrop'
      simp only [List.getElem?_drop, List.getElem?_map, List.getElem?_eq_getElem hi, Option.map_some] at this
      rw [← Array.getElem?_toList]
      exact this
    rw [reads_bstring hby Tryz.underlying29 Tryz.underlying5 Tryz.underlying9, ← hall]
    exact hk h5 f5
  · have hz : k / B ≠ 0 := by have := of_decide_eq_false hc; omega
    have hlt : k / B < k := Nat.div_lt_self (Nat.pos_of_ne_zero (by rintro rfl; simp at hz)) (by omega)
    refine ⟨k / B, hlt, k / B, at_ - 1, digitOf (k % B) :: suf, _, rfl, rfl, rfl, by omega, by simp; omega, ?_, f5, hu5.same, by simpa using hcs, hdrop'⟩
    rw [hbase, baseM_step h2 (n := k), if_neg hz]
    simp
theorem baseM_lt {base n : Nat} (hn : n < base) : baseM base n = [digitOf n] := by rw [baseM, dif_pos (.inl hn)]
def hexM (c : UInt8) : List UInt8 := [digitOf (c.toNat / 16), digitOf (c.toNat % 16)]
theorem hexM_eq (c : UInt8) : baseM 16 (c.toNat / 16) ++ baseM 16 (c.toNat % 16) = hexM c := by
  have hc := c.toNat_lt
  rw [baseM_lt (by omega), baseM_lt (by omega)]
  rfl
theorem hexM_len (c : UInt8) : (hexM c).length ≤ 130 := by
  unfold hexM
  simp
theorem hex_spec {c : UInt8} (hk : ∀ h', Fm h.size h.size h h' → R (str (hexM c)) h') : CallsH Tryz.prog 100 #[.int .u8 c.toNat] h R E := by
  have hc := c.toNat_lt
  refine C100 ?_
  unfold S100
  have e1 : ((c.toNat : Int).fdiv (2 ^ (min ((4 : Int)).toNat IntKind.u8.bits))) = ((c.toNat / 16 : Nat) : Int) := by
    have : (2 : Int) ^ (min ((4 : Int)).toNat IntKind.u8.bits) = 16 := by decide
    rw [this, Int.fdiv_eq_ediv_of_nonneg _ (by omega)]
    rfl
  have e2 : (IntKind.u8.wrap (BitVec.ofInt IntKind.u8.bits (c.toNat : Int) &&& BitVec.ofInt IntKind.u8.bits 15).toNat) = ((c.toNat % 16 : Nat) : Int) := by
    have : ((BitVec.ofInt IntKind.u8.bits (c.toNat : Int) &&& BitVec.ofInt IntKind.u8.bits 15)).toNat = c.toNat % 16 := and15_8 hc
    rw [this, wrap_u8 (by omega)]
  rw [reads_shr (by omega : ¬ (4 : Int) < 0), e1, reads_conv_int Tryz.underlying5 Tryz.underlying31, wrap_u64 (by omega)]
  refine base_spec (B := 16) (by omega) (by omega) (by omega) fun h1 f1 => ?_
  rw [reads_and, e2, reads_conv_int Tryz.underlying5 Tryz.underlying31, wrap_u64 (by omega)]
  refine base_spec (B := 16) (by omega) (by omega) (by omega) fun h2 f2 => ?_
  have l1 := baseM_len (base := 16) (by omega) 63 (c.toNat / 16) (by omega)
  have l2 := baseM_len (base := 16) (by omega) 63 (c.toNat % 16) (by omega)
  rw [reads_sadd (by omega), hexM_eq]
  have s1 := f1.size
  exact hk h2 (f1.trans ⟨f2.size, fun k hk _ => f2.same k (by omega) (by omega)⟩)
/-- a number that is not below 0 -/
theorem num_spec {m : Nat} (hm : m < 2 ^ 63) (hk : ∀ h', Fm h.size h.size h h' → R (str (baseM 10 m)) h') : CallsH Tryz.prog 69 #[.int .i64 m] h R E := by
  refine C69 ?_
  unfold S69
  rw [reads_lt, boolV_bool, decide_eq_false (by omega), bcase_false, reads_conv_int Tryz.underlying2 Tryz.underlying31, wrap_u64 (by omega)]
  exact base_spec (B := 10) (by omega) (by omega) (by omega) hk
end Rt
end Go.Proofs
