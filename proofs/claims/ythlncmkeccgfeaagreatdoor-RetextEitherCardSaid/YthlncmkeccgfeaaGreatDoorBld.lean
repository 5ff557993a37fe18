/- A part of the proofs over this seat: Bld. -/
import Derived.Test.YthlncmkeccgfeaaGreatDoorAwk
import Derived.Lib.Builder
import Derived.Lib.AppendStr
import Derived.Lib.UnsafeStr
set_option linter.unusedVariables false
set_option linter.unusedSimpArgs false
set_option maxRecDepth 100000
namespace Go.Proofs
open Go.Vcg
namespace Rt
variable {n b : Nat} {h : Heap} {l : List UInt8} {R : Value → Heap → Prop} {E : List PanicEntry → Heap → Prop}
theorem cv85_91 {x y : Value} {k : Value → Prop} (hb : h[b]? = some (.cells #[x, y] 87 (0, 0))) : Reads Tryz.prog (convert 85 91 (ptr b)) h k = k (ptr b) := reads_of fun w hw => by
  subst hw
  have hi : ∃ j, Tryz.prog.info? 87 = some j ∧ j.size ≠ 0 := by
    have h2 : sizeT Tryz.prog 87 = some 2 := by kernel_rfl
    unfold sizeT at h2
    split at h2
    · rename_i i hi; exact ⟨i, hi, by simp at h2; omega⟩
    · cases h2
  obtain ⟨j, hj, h0⟩ := hi
  exact Go.Lib.run_to_unsafe w ⟨b, 0, none⟩ Tryz.underlying85 Tryz.underlying91 hj h0 (e := 87) (cells := 2) (by simp [World.shape?, hb]) (by simp)
theorem cv91_85 {x y : Value} {k : Value → Prop} (hb : h[b]? = some (.cells #[x, y] 87 (0, 0))) : Reads Tryz.prog (convert 91 85 (ptr b)) h k = k (ptr b) := reads_of fun w hw => by
  subst hw
  have hi : ∃ j, Tryz.prog.info? 87 = some j := by
    have h2 : sizeT Tryz.prog 87 = some 2 := by kernel_rfl
    unfold sizeT at h2
    split at h2
    · rename_i i hi; exact ⟨i, hi⟩
    · cases h2
  obtain ⟨j, hj⟩ := hi
  exact Go.Lib.run_from_unsafe w ⟨b, 0, none⟩ Tryz.underlying91 Tryz.underlying85 hj (e := 87) (cells := 2) (by simp [World.shape?, hb]) (by kernel_rfl)
theorem noescape_spec {x : Value} {K : Value → Heap → Prop} (hk : K x h) : Runs Tryz.prog (do let d ← Deferred.ofValue (.func (.func 112) #[] #[]) #[x]; invoke d.target d.args) h K E := by
  intro w hw
  subst hw
  have hr := run_callFunc_extern (P := Tryz.prog) (f := 112) (fn := Tryz.f112) (e := Extern.AbiNoEscape.same) Tryz.func112 (by kernel_rfl) (by kernel_rfl) (by kernel_rfl) (by kernel_rfl) #[x] w
  rw [Go.Lib.run_noEscape] at hr
  simp [Deferred.ofValue, invoke, hr, uponH, Same.refl]
  exact hk

/-- a strings.Builder at block b, which holds the bytes l -/
def SB (h : Heap) (n b : Nat) (l : List UInt8) : Prop := b < n ∧ ∃ p v, (p = .pointer none ∨ p = ptr b) ∧ h[b]? = some (.cells #[p, v] 87 (0, 0)) ∧ ByteRow h n v l
/-- all but a builder's own blocks: what is no row of bytes stays -/
structure Fq (b : Nat) (h h' : Heap) : Prop where
  size : h.size ≤ h'.size
  same : ∀ k, k < h.size → k ≠ b → (∀ cur, h[k]? ≠ some (.cells cur 5 (0, 0))) → h'[k]? = h[k]?
theorem Fq.refl (b : Nat) (h : Heap) : Fq b h h := ⟨Nat.le_refl _, fun _ _ _ _ => rfl⟩
theorem Fq.trans {b : Nat} {h h' h'' : Heap} (x : Fq b h h') (y : Fq b h' h'') : Fq b h h'' := by
  refine ⟨Nat.le_trans x.size y.size, fun k hk hb h5 => ?_⟩
  have e := x.same k hk hb h5
  exact (y.same k (Nat.lt_of_lt_of_le hk x.size) hb (by rw [e]; exact h5)).trans e
theorem Fq.of {b m : Nat} {h h' : Heap} (f : Fm h.size m h h') (hm : h.size ≤ m) : Fq b h h' := ⟨f.size, fun k hk _ _ => f.same k hk (by omega)⟩
theorem Fq.upd {b : Nat} {h h' : Heap} {o : Obj} (u : Upd h h' b o) : Fq b h h' := ⟨by rw [u.size]; exact Nat.le_refl _, fun k _ hb _ => u.other k hb⟩
theorem Fq.al {b : Nat} {h h' : Heap} {o : Obj} (a : Al h h' o) : Fq b h h' := ⟨by rw [a.size]; omega, fun k hk _ _ => a.old k hk⟩
theorem Fq.grown {b : Nat} {h h' : Heap} {v : Value} (g : GrownH h h' v.ownBlock) (hr : ByteRow h n v l) : Fq b h h' := by
  refine ⟨g.size, fun k hk _ h5 => g.block k hk ?_⟩
  intro e
  rcases hr.2 with ⟨rfl, _⟩ | ⟨g', cap, cur, rfl, e2, e3, _⟩
  · cases e
  · have : k = g' := by simpa [Value.ownBlock] using e
    subst this
    exact h5 cur e3
theorem eq85 {k : Value → Prop} : Reads Tryz.prog (binS .neq 85 false (ptr b) (ptr b)) h k = k (.bool false) := reads_of fun w hw => by
  have hi : ∃ j, Tryz.prog.info? 87 = some j := by
    have h2 : sizeT Tryz.prog 87 = some 2 := by kernel_rfl
    unfold sizeT at h2
    split at h2
    · rename_i i hi; exact ⟨i, hi⟩
    · cases h2
  obtain ⟨j, hj⟩ := hi
  have := Go.Lib.run_neq_ptr_same w ⟨b, 0, none⟩ Tryz.underlying85 hj
  simp only [binS, guardS, ptr]
  simpa using this
theorem ByteRow.frame {h' : Heap} {v : Value} (k : ByteRow h n v l) (hs : ∀ b, n ≤ b → b < h.size → h'[b]? = h[b]?) : ByteRow h' n v l := by
  obtain ⟨h1, h2⟩ := k
  refine ⟨h1, h2.imp id ?_⟩
  rintro ⟨g, cap, cur, e1, e2, e3, e4⟩
  exact ⟨g, cap, cur, e1, e2, (hs g e2 (at_lt e3)).trans e3, e4⟩
theorem copy_spec {v : Value} {p : Value} (hp : p = .pointer none ∨ p = ptr b) (hb : h[b]? = some (.cells #[p, v] 87 (0, 0)))
    (hk : ∀ h', h'.size = h.size → (∀ k, k ≠ b → h'[k]? = h[k]?) → h'[b]? = some (.cells #[ptr b, v] 87 (0, 0)) → R (.tuple #[]) h') : CallsH Tryz.prog 97 #[ptr b] h R E := by
  refine C97 ?_
  unfold S97
  rw [reads_nil, Tryz.fa87_0, addr_add, pLoad_one (v := p) Tryz.agg85 (by rw [hcell_of hb]; rfl)]
  rcases hp with rfl | rfl
  · rw [Tryz.eql85_n, boolV_bool, bcase_true, cv85_91 hb]
    refine noescape_spec ?_
    rw [cv91_85 hb, reads_nil, Tryz.fa87_0, addr_add]
    refine store1 hb Tryz.size85 rfl (by simp) fun h' hu => hk h' hu.size hu.other hu.same
  · rw [Tryz.eql85_s, boolV_bool, bcase_false, reads_nil, Tryz.fa87_0, addr_add, pLoad_one (v := ptr b) Tryz.agg85 (by rw [hcell_of hb]; rfl), eq85, boolV_bool, bcase_false]
    exact hk h rfl (fun _ _ => rfl) hb
theorem push_byteq {v : Value} {c : UInt8} {K : Value → Heap → Prop} (b : ByteRow h n v l) (hn : n ≤ h.size) (hlen : l.length ≤ 1000000000) (hK : ∀ v' h', ByteRow h' n v' (l ++ [c]) → (∀ r, Fm n r h h') → (∀ r, Fq r h h') → K v' h') :
    Runs Tryz.prog (vS (Instr.buildSlice 29 1 #[(0, .int .u8 c.toNat)])) h (fun s h1 => Runs Tryz.prog (builtin .append #[29, 29] 29 #[false, false] #[v, s]) h1 K E) E := by
  refine slice1_rule Tryz.info5 Tryz.underlying29 rfl (by omega) (by omega) fun h1 a1 => ?_
  have s1 := a1.size
  have ho : Owns h1 n 5 1 v l.length (l.map bval) := by
    obtain ⟨hl, ho⟩ := b
    refine ⟨hl, ho.imp id ?_⟩
    rintro ⟨g, cap, cur, e1, e2, e3, e4⟩
    exact ⟨g, cap, cur, e1, e2, (a1.old g (at_lt e3)).trans e3, e4⟩
  refine runs_append' (size := 1) (bytes := 1) (news := [bval c]) Tryz.info5 Tryz.underlying29 rfl (by omega) ho rfl ?_ ?_ (by simp [maxLen]; omega) (by omega) (by omega) fun v' h2 ho' hg hnil hat => ?_
  · intro j u hj
    rw [addr_add, Nat.zero_add, hcell_of a1.at_]
    simpa [Value.cells, bval] using hj
  · intro u hu
    simp only [List.mem_cons, List.not_mem_nil, or_false] at hu
    subst hu
    rfl
  · refine hK v' h2 ?_ (fun r => ?_) fun r => (Fq.al a1).trans (Fq.grown hg ho)
    · unfold ByteRow
      simpa using ho'
    · refine ⟨by have := hg.size; omega, fun k hk _ => ?_⟩
      rw [hg.block k (by omega) ?_, a1.old k (by omega)]
      intro e
      rcases ho.2 with ⟨rfl, _⟩ | ⟨g, cap, cur, rfl, e2, _⟩
      · cases e
      · have : k = g := by simpa [Value.ownBlock] using e
        omega
theorem wbyte_spec {c : UInt8} (hs : SB h n b l) (hn : n ≤ h.size) (hl : l.length ≤ 1000000) (hk : ∀ h', SB h' n b (l ++ [c]) → Fm n b h h' → Fq b h h' → R .nilIface h') : CallsH Tryz.prog 70 #[ptr b, .int .u8 c.toNat] h R E := by
  obtain ⟨hbn, p, v, hp, hb, hr⟩ := hs
  refine C70 ?_
  unfold S70
  refine copy_spec hp hb fun h1 s1 o1 b1 => ?_
  have r1 : ByteRow h1 n v l := hr.frame fun k h1 h2 => o1 k (by omega)
  rw [reads_nil, Tryz.fa87_1, addr_add, Nat.zero_add, pLoad_one (v := v) Tryz.agg29 (by rw [hcell_of b1]; rfl)]
  refine push_byteq (c := c) r1 (by omega) (by omega) fun v' h2 r2 f2 q2 => ?_
  have b2 := ((f2 h2.size).same b hbn (by have := (f2 0).size; omega)).trans b1
  rw [reads_nil, Tryz.fa87_1, addr_add, Nat.zero_add]
  have hv : flat v' = true := by
    rcases r2.2 with ⟨rfl, _⟩ | ⟨g, cap, cur, rfl, _⟩ <;> rfl
  refine store1 b2 Tryz.size29 hv (by simp) fun h3 hu3 => ?_
  have f1 : Fm n b h h1 := ⟨by omega, fun k _ hkb => o1 k hkb⟩
  refine hk h3 ⟨hbn, ptr b, v', .inr rfl, hu3.same, r2.frame fun k h1 h2 => hu3.other k (by omega)⟩ ?_ ?_
  · exact (f1.trans (f2 b)).trans (Fm.upd hu3 (.inr rfl))
  · exact (Fq.trans ⟨by omega, fun k hk hb _ => o1 k hb⟩ (q2 b)).trans (Fq.upd hu3)
theorem blen_spec (hs : SB h n b l) (hk : R (.int .i64 l.length) h) : CallsH Tryz.prog 99 #[ptr b] h R E := by
  obtain ⟨hbn, p, v, hp, hb, hr⟩ := hs
  refine C99 ?_
  unfold S99
  rw [reads_nil, Tryz.fa87_1, addr_add, Nat.zero_add, pLoad_one (v := v) Tryz.agg29 (by rw [hcell_of hb]; rfl), reads_blen hr.is Tryz.underlying29]
  exact hk
theorem push_str {v : Value} {x : List UInt8} {cs : Array Bool} {K : Value → Heap → Prop} (r : ByteRow h n v l) (hn : n ≤ h.size) (hl : l.length ≤ 1000000) (hx : x.length ≤ 1000000) (hK : ∀ v' h', ByteRow h' n v' (l ++ x) → (∀ r, Fm n r h h') → (∀ r, Fq r h h') → K v' h') :
    Runs Tryz.prog (builtin .append #[29, 9] 29 cs #[v, str x]) h K E := by
  obtain ⟨i, hi, hz, hsize, hby⟩ := Tryz.info5
  intro w hw
  subst hw
  have hsz : (⟨x.toArray⟩ : ByteArray).size = x.length := by simp [ByteArray.size]
  obtain ⟨v', w', hr, ho, hg, hnil⟩ := Go.Lib.run_append_own_string (P := Tryz.prog) w n 29 9 29 5 i Tryz.underlying29 Tryz.underlying9 hi hz hsize hby v l.length (l.map bval) r ⟨x.toArray⟩ (by rw [hsz]; simp [maxLen]; omega) (by rw [hsz]; omega) hn
  have hcells : Go.Lib.strCells ⟨x.toArray⟩ = x.map bval := by simp [Go.Lib.strCells, bval]
  rw [hsz, hcells] at ho
  unfold str
  simp only [builtin, Sem.run_bind, hr, Result.andThen_ok, Sem.run_pure, uponH]
  refine ⟨⟨hg.os, hg.tape, hg.output⟩, hK v' w'.heap ?_ (fun q => ⟨hg.size, fun k hk _ => hg.block k (by omega) ?_⟩) fun q => Fq.grown ⟨hg.size, hg.block⟩ r⟩
  · unfold ByteRow
    rw [List.length_append, List.map_append]
    exact ho
  · intro e
    rcases r.2 with ⟨rfl, _⟩ | ⟨g, cap, cur, rfl, e2, _⟩
    · cases e
    · have : k = g := by simpa [Value.ownBlock] using e
      omega
theorem wstr_spec {x : List UInt8} (hs : SB h n b l) (hn : n ≤ h.size) (hl : l.length ≤ 1000000) (hx : x.length ≤ 1000000) (hk : ∀ h' v, SB h' n b (l ++ x) → Fm n b h h' → Fq b h h' → R v h') : CallsH Tryz.prog 67 #[ptr b, str x] h R E := by
  obtain ⟨hbn, p, v, hp, hb, hr⟩ := hs
  refine C67 ?_
  unfold S67
  refine copy_spec hp hb fun h1 s1 o1 b1 => ?_
  have r1 : ByteRow h1 n v l := hr.frame fun k h1 h2 => o1 k (by omega)
  rw [reads_nil, Tryz.fa87_1, addr_add, Nat.zero_add, pLoad_one (v := v) Tryz.agg29 (by rw [hcell_of b1]; rfl)]
  refine push_str r1 (by omega) hl hx fun v' h2 r2 f2 q2 => ?_
  have b2 := ((f2 h2.size).same b hbn (by have := (f2 0).size; omega)).trans b1
  rw [reads_nil, Tryz.fa87_1, addr_add, Nat.zero_add]
  have hv : flat v' = true := by
    rcases r2.2 with ⟨rfl, _⟩ | ⟨g, cap, cur, rfl, _⟩ <;> rfl
  refine store1 b2 Tryz.size29 hv (by simp) fun h3 hu3 => ?_
  rw [reads_slen Tryz.underlying9]
  have f1 : Fm n b h h1 := ⟨by omega, fun k _ hkb => o1 k hkb⟩
  exact hk h3 _ ⟨hbn, ptr b, v', .inr rfl, hu3.same, r2.frame fun k h1 h2 => hu3.other k (by omega)⟩ ((f1.trans (f2 b)).trans (Fm.upd hu3 (.inr rfl))) ((Fq.trans ⟨by omega, fun k hk hb _ => o1 k hb⟩ (q2 b)).trans (Fq.upd hu3))
theorem string_spec (hs : SB h n b l) (h0 : l ≠ []) (hl : l.length ≤ 1000000) (hk : ∀ h', h'.size = h.size → (∀ k, k < n → h'[k]? = h[k]?) → R (str l) h') : CallsH Tryz.prog 45 #[ptr b] h R E := by
  obtain ⟨hbn, p, v, hp, hb, hr⟩ := hs
  have his := hr.is
  obtain ⟨hlen, ho⟩ := hr
  rcases ho with ⟨_, hz⟩ | ⟨g, cap, cur, rfl, e2, e3, e4, e5, e6, e7⟩
  · exact absurd (List.length_eq_zero_iff.1 hz) h0
  have hl0 : l.length ≠ 0 := fun e => h0 (List.length_eq_zero_iff.1 e)
  refine C45 ?_
  unfold S45
  rw [reads_nil, Tryz.fa87_1, addr_add, Nat.zero_add, pLoad_one (v := .slice (some ⟨g, 0, none⟩) l.length cap) Tryz.agg29 (by rw [hcell_of hb]; rfl)]
  rw [reads_pure (s := builtinS .unsafeSliceData #[29] 113 #[.slice (some ⟨g, 0, none⟩) l.length cap]) (v := .pointer (some ⟨g, 0, none⟩)) (fun w => Go.Lib.run_unsafeSliceData_row (P := Tryz.prog) w #[29] 113 ⟨g, 0, none⟩ l.length cap (by omega))]
  rw [reads_nil, Tryz.fa87_1, addr_add, Nat.zero_add, pLoad_one (v := .slice (some ⟨g, 0, none⟩) l.length cap) Tryz.agg29 (by rw [hcell_of hb]; rfl), reads_rlen Tryz.underlying29]
  refine ⟨?_, trivial⟩
  intro w hw
  subst hw
  have hat : ∀ j x, l[j]? = some x → w.cell? ((⟨g, 0, none⟩ : Addr).add j) = some (.int .u8 x.toNat) := by
    intro j x hj
    rw [cell_eq, addr_add, hcell_of e3]
    obtain ⟨hjl, rfl⟩ := List.getElem?_eq_some_iff.1 hj
    have : (cur.toList.take (l.length * 1))[j]? = (l.map bval)[j]? := by rw [e7]
    rw [List.getElem?_take, if_pos (by omega)] at this
    simpa [hjl, bval] using this
  have hr := Go.Lib.run_unsafeString_row (P := Tryz.prog) w 113 3 9 5 Tryz.underlying113 (by kernel_rfl) g cur.size (by simp [World.shape?, e3]) l h0 (by omega) (by omega) hat
  simp only [builtin, Sem.run_bind, hr, Result.andThen_ok, Sem.run_pure, uponH]
  unfold World.freeze
  rw [if_neg hl0]
  refine ⟨⟨rfl, rfl, rfl⟩, trivial, hk _ (by simp only [Array.size_modify]) fun k hk => ?_⟩
  have : g ≠ k := by omega
  simp only [Array.getElem?_modify, this, if_false]
end Rt
end Go.Proofs
