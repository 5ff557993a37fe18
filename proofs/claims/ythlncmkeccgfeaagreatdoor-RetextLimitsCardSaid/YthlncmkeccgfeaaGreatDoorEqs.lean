/- A part of the proofs over this seat: Eqs. -/
import Derived.Test.YthlncmkeccgfeaaGreatDoorPrs2
import Derived.Lib.ConvBytes
import Derived.Laws.StructEq
set_option linter.unusedVariables false
set_option linter.unusedSimpArgs false
set_option maxRecDepth 100000
namespace Go.Proofs
open Go.Vcg
namespace Rt
attribute [local congr] Reads.congr ReadsS.congr pLoad.congr pLoadS.congr pStore.congr Runs.congr CallsH.congr bcase.congr boolV.congr Stable.congr pAlloc.congr
variable {S : Glb} {n : Nat} {h : Heap} {r : Nat} {bv : Value} {l : List UInt8} {p : Nat} {ext : Bool} {op gr : Nat} {R : Value → Heap → Prop} {E : List PanicEntry → Heap → Prop}

theorem pLoad_mono {P : Program} {T : TypeId} {a : Value} {k k' : Value → Prop} (hk : ∀ v, k v → k' v) (H : pLoad P T a h k) : pLoad P T a h k' := by
  unfold pLoad at *
  split at H
  · split at H
    · obtain ⟨v, h1, h2⟩ := H; exact ⟨v, h1, hk _ h2⟩
    · obtain ⟨v, h1, h2⟩ := H; exact ⟨v, h1, hk _ h2⟩
    · exact H.elim
  · exact H.elim
theorem load_one {P : Program} {T t : TypeId} {b : Nat} {v : Value} (hT : aggN P T = some none) (hb : h[b]? = some (.cells #[v] t (0, 0))) : pLoad P T (ptr b) h fun z => z = v := by
  unfold ptr
  rw [pLoad_one (v := v) hT (by rw [hcell_of hb]; rfl)]

theorem results11 {D : List Deferred} {a : Act} {w : World} {x y u v : Value} {fr : Fr} (ha : Agrees D 31 a fr) (h4 : Vcg.look fr 4 = some x) (h5 : Vcg.look fr 5 = some y)
    (hx : pLoad Tryz.prog 24 x w.heap fun z => z = u) (hy : pLoad Tryz.prog 26 y w.heap fun z => z = v) : (results Tryz.f11 a.tmps).run Tryz.prog w = .ok (.tuple #[u, v]) w := by
  have er : Tryz.f11.results = #[.cell 4 24, .cell 5 26] := by kernel_rfl
  have hr : retAll Tryz.prog [.cell 4 24, .cell 5 26] fr w.heap (fun vs => vs = [u, v]) := by
    simp only [retAll, h4, h5, need]
    refine pLoad_mono ?_ hx
    rintro z rfl
    refine pLoad_mono ?_ hy
    rintro z rfl
    rfl
  obtain ⟨vs, k1, rfl⟩ := retAll_sound ha _ _ hr
  rw [results_eq, er, Array.mapM_eq_mapM_toList (m := Sem), Sem.run_bind, Sem.run_map]
  simp only [k1]
  simp

theorem parse_ok {k : Nat} (hk0 : k ≤ 1000000) (gl : Gl S h) (hn : S.N ≤ h.size) (hb : IsBytes h bv l) (hbl : ∀ b o m c, bv = .slice (some ⟨b, o, none⟩) m c → b < h.size) (hlen : l.length ≤ 256) {t : T}
    (hm : wholeM k l ext = .ok (t, p, gr))
    (hk : ∀ h' b vs, Fm h.size h.size h h' → h.size ≤ b → h'[b]? = some (.cells (vs ++ [.int .i64 gr, .bool ext]).toArray 66 (0, 0)) → IsRe h' (fun x => h.size ≤ x ∧ x ≠ b) t vs → R (.tuple #[ptr b, .nilIface]) h') :
    CallsH Tryz.prog 11 #[bv, .bool ext] h R E := by
  intro w hw
  subst hw
  refine calls_of_wp_defers Tryz.func11 body11_eq ?_
  have en : Tryz.f11.ntmps = 31 := by kernel_rfl
  refine piece (H := H11A) (E := fun _ _ => False) (D := []) (n := 31) (outs := [0, 1, 4, 5]) (rets := []) (fr := enumF 0 [bv, .bool ext])
    (kn := fun vs h2 => ∃ h1, Al w.heap h1 (.cells #[.pointer none] 24 (0, 0)) ∧ Al h1 h2 (.cells #[.nilIface] 26 (0, 0)) ∧ vs = [bv, .bool ext, ptr w.heap.size, ptr h1.size]) (kr := fun _ _ => False)
    Tryz.mixed (by kernel_rfl) ?_ (Same.refl w) ?_ (fun _ _ _ _ h _ => h.elim) (fun _ _ _ _ _ h => h.elim) ?_
  · exact agrees_of rfl (by simp [en]) (by simp [enumF])
  · rw [← V11A]
    unfold S11A
    refine alloc_rule Tryz.zero24 fun h1 a1 => alloc_rule Tryz.zero26 fun h2 a2 => ?_
    exact ⟨h1, a1, a2, rfl⟩
  rintro vs a2 w2 ha2 hw2 ⟨h1, al1, al2, rfl⟩
  have s1 := al1.size
  have s2 := al2.size
  refine piece (H := H11B) (E := fun _ _ => False) (D := []) (n := 31) (w₀ := w) (outs := [0, 1, 4, 5, 6]) (rets := [])
    (kn := fun vs h3 => Al w2.heap h3 (.cells #[bv, .int .i64 0, .bool ext, .int .i64 0, .int .i64 0] 57 (0, 0)) ∧ vs = [bv, .bool ext, ptr w.heap.size, ptr h1.size, ptr w2.heap.size]) (kr := fun _ _ => False)
    Tryz.mixed (by kernel_rfl) ha2 hw2 ?_ (fun _ _ _ _ h _ => h.elim) (fun _ _ _ _ _ h => h.elim) ?_
  · rw [← V11B]
    unfold S11B
    have : ∃ q m c, bv = .slice q m c := by
      rcases hb with ⟨rfl, _⟩ | ⟨b, o, c, rfl, _⟩
      · exact ⟨_, _, _, rfl⟩
      · exact ⟨_, _, _, rfl⟩
    obtain ⟨q, m, c, rfl⟩ := this
    rw [Tryz.bd57_0_2]
    refine new_rule fun h3 a3 => ?_
    exact ⟨a3, rfl⟩
  rintro vs a3 w3 ha3 hw3 ⟨al3, rfl⟩
  have s3 := al3.size
  have f3 : Fm w.heap.size w.heap.size w.heap w3.heap := ((Fm.al al1 (Nat.le_refl _)).trans (Fm.al al2 (by omega))).trans (Fm.al al3 (by omega))
  have c3 : Cx S w.heap.size w3.heap w2.heap.size bv l 0 ext 0 0 :=
    ⟨al3.at_, hb.frame fun b o c hv => f3.same b (hbl b o _ c hv) (by have := hbl b o _ c hv; omega), fun b o m c hv => ⟨by have := hbl b o m c hv; omega, hbl b o m c hv⟩, Nat.zero_le _, hlen, gl.fm f3 hn hn, by omega, hn, by omega, Nat.le_refl _, by omega⟩
  refine piece (H := H11C) (E := fun _ _ => False) (D := []) (n := 31) (w₀ := w) (outs := [0, 1, 4, 5, 6]) (rets := [])
    (kn := fun vs h4 => h4 = w3.heap ∧ vs = [bv, .bool ext, ptr w.heap.size, ptr h1.size, ptr w2.heap.size]) (kr := fun _ _ => False)
    Tryz.mixed (by kernel_rfl) ha3 hw3 ?_ (fun _ _ _ _ h _ => h.elim) (fun _ _ _ _ _ h => h.elim) ?_
  · rw [← V11C]
    unfold S11C
    rw [reads_blen c3.by_ Tryz.underlying29, reads_gt, boolV_bool]
    refine bcase_of (fun hc => ?_) (fun _ => ⟨rfl, rfl⟩)
    have := of_decide_eq_true hc
    omega
  rintro vs a4 w4 ha4 hw4 ⟨hh4, rfl⟩
  refine wp_seq (defer_wp (x := ptr w.heap.size) (y := ptr h1.size) (ha4.vals 4 _ rfl) (ha4.vals 5 _ rfl) (by rw [ha4.size]; omega) ?_)
  have ha5 : Agrees [{ target := .fn (.func 29) #[ptr w.heap.size, ptr h1.size], args := #[] }] 31 { tmps := a4.tmps.setIfInBounds 20 (.func (.func 29) #[] #[ptr w.heap.size, ptr h1.size]), defers := { target := .fn (.func 29) #[ptr w.heap.size, ptr h1.size], args := #[] } :: a4.defers }
      (zipF [0, 1, 4, 5, 6] [bv, .bool ext, ptr w.heap.size, ptr h1.size, ptr w2.heap.size] []) := by
    refine agrees_of (by rw [ha4.defers]) (by simp [ha4.size]) ?_
    intro q hq
    simp only [zipF, List.mem_cons, List.not_mem_nil, or_false] at hq
    rcases hq with rfl | rfl | rfl | rfl | rfl <;>
    · simp only
      rw [Array.getElem?_setIfInBounds_ne (by omega)]
      exact ha4.vals _ _ rfl
  refine last_piece (H := H11E) (E := fun _ _ => False) (w₀ := w) (outs := []) (rets := [4, 5]) (kn := fun _ _ => False)
    (kr := fun vs h' => vs = [ptr w.heap.size, ptr h1.size] ∧ ∃ b ws, Fm w.heap.size w.heap.size w.heap h' ∧ w.heap.size ≤ b ∧ h'[b]? = some (.cells (ws ++ [.int .i64 gr, .bool ext]).toArray 66 (0, 0)) ∧ IsRe h' (fun x => w.heap.size ≤ x ∧ x ≠ b) t ws ∧
      h'[w.heap.size]? = some (.cells #[ptr b] 24 (0, 0)) ∧ h'[h1.size]? = some (.cells #[.nilIface] 26 (0, 0))) Tryz.mixed (by kernel_rfl) ha5 hw4 ?_ (fun _ _ _ _ h _ => h.elim) ?_ (fun _ _ _ _ _ h => h.elim)
  · rw [← V11E]
    unfold S11E
    rw [hh4]
    refine whole_spec hk0 (c3.more (m := w3.heap.size) c3.nle (Nat.le_refl _)) ?_
    rw [hm]
    intro h5 ws f5 c5 ht5
    have s5 := f5.size
    refine alloc_rule Tryz.zero36 fun h6 a6 => ?_
    have s6 := a6.size
    refine storeFull a6.at_ (xs := ws.toArray) (by rw [Tryz.size36]; simp [ht5.len]) (by simp [ht5.len, Value.cells]) (by simpa using ht5.flat) fun h7 hu7 => ?_
    have s7 := hu7.size
    refine load_all hu7.same (by rw [Tryz.agg36]; simp [ht5.len]) ?_
    have c7 : Cx S w3.heap.size h7 w2.heap.size bv l p ext 0 gr := (c5.al a6).upd hu7 c5.nle (by have := c5.rlt; omega)
    have e7 : ∀ b, b < h5.size → h7[b]? = h5[b]? := fun b hb => (hu7.other b (by omega)).trans (a6.old b hb)
    rw [reads_nil, Tryz.fa57_4, addr_add, c7.ld4]
    have hl9 := ht5.len
    obtain ⟨x0, x1, x2, x3, x4, x5, x6, x7, x8, rfl⟩ : ∃ x0 x1 x2 x3 x4 x5 x6 x7 x8, ws = [x0, x1, x2, x3, x4, x5, x6, x7, x8] := by
      match ws, hl9 with
      | [x0, x1, x2, x3, x4, x5, x6, x7, x8], _ => exact ⟨_, _, _, _, _, _, _, _, _, rfl⟩
    rw [show (Value.agg [x0, x1, x2, x3, x4, x5, x6, x7, x8].toArray) = .agg #[x0, x1, x2, x3, x4, x5, x6, x7, x8] from rfl, Tryz.bd66_0_1_2]
    refine ⟨?_, trivial⟩
    refine new_rule fun h8 a8 => ?_
    have s8 := a8.size
    have e8 : ∀ b, b < w3.heap.size → b ≠ w2.heap.size → h8[b]? = w3.heap[b]? := fun b hb hr => (a8.old b (by omega)).trans ((e7 b (by omega)).trans (f5.same b hb hr))
    have b4 : h8[w.heap.size]? = some (.cells #[.pointer none] 24 (0, 0)) := (e8 w.heap.size (by omega) (by omega)).trans ((al3.old _ (by omega)).trans ((al2.old _ (by omega)).trans al1.at_))
    have b5 : h8[h1.size]? = some (.cells #[.nilIface] 26 (0, 0)) := (e8 h1.size (by omega) (by omega)).trans ((al3.old _ (by omega)).trans al2.at_)
    refine ⟨trivial, ?_, trivial⟩
    refine store1 b4 Tryz.size24 rfl (by simp) fun h9 hu9 => ?_
    have s9 := hu9.size
    refine ⟨trivial, ?_, trivial⟩
    refine store1 ((hu9.other h1.size (by omega)).trans b5) Tryz.size26 rfl (by simp) fun h10 hu10 => ?_
    have e10 : ∀ b, b ≠ w.heap.size → b ≠ h1.size → h10[b]? = h8[b]? := fun b h1 h2 => (hu10.other b h2).trans (hu9.other b h1)
    refine ⟨trivial, rfl, h7.size, [x0, x1, x2, x3, x4, x5, x6, x7, x8], ?_, by omega, (e10 h7.size (by omega) (by omega)).trans a8.at_, ?_, ?_, ?_⟩
    · refine ⟨by rw [hu10.size]; omega, fun b hb hb2 => ?_⟩
      rw [e10 b hb2 (by omega), e8 b (by omega) (by omega)]
      exact f3.same b hb hb2
    · exact ht5.frame fun b hb hlt => ⟨⟨by omega, by omega⟩, (e10 b (by omega) (by omega)).trans ((a8.old b (by omega)).trans (e7 b hlt))⟩
    · rw [hu10.other w.heap.size (by omega), hu9.same]; rfl
    · rw [hu10.same]; rfl
  rintro vs a6 w6 ha6 hw6 ⟨rfl, b, ws, f6, hbn, hbv, htv, h4, h5⟩
  simp only [bodyPostD]
  rw [ha6.defers]
  refine leaves_cons (f := 29) (args := #[ptr w.heap.size, ptr h1.size]) (by simp) ?_ ?_
  · have h29 : Tryz.prog.funcs[29]? = some Tryz.f29 := Tryz.func29
    have hname : Tryz.f29.name ≠ "runtime.NumGoroutine" := by have : (Tryz.f29.name == "runtime.NumGoroutine") = false := by kernel_rfl
                                                              simpa using this
    simp [invoke, callFunc, h29, hname, body29_eq]
  · refine CallsD.mono closure_quiet ?_
    rintro e u' w7 ⟨rfl, rfl, hs7, hh7⟩
    simp only [settle, Leaves]
    refine ⟨_, results11 ha6 rfl rfl (u := ptr b) (v := .nilIface) ?_ ?_, ⟨hw6.trans hs7, ?_⟩⟩
    · rw [hh7]; exact load_one Tryz.agg24 h4
    · rw [hh7]; exact load_one Tryz.agg26 h5
    · rw [hh7]; exact hk _ b ws f6 hbn hbv htv
end Rt
end Go.Proofs

set_option maxRecDepth 100000
namespace Go.Proofs
open Go.Vcg
namespace Rt
attribute [local congr] Reads.congr ReadsS.congr pLoad.congr pLoadS.congr pStore.congr Runs.congr CallsH.congr bcase.congr boolV.congr Stable.congr pAlloc.congr
variable {S : Glb} {n : Nat} {h : Heap} {r : Nat} {bv : Value} {l : List UInt8} {p : Nat} {ext : Bool} {op gr : Nat} {R : Value → Heap → Prop} {E : List PanicEntry → Heap → Prop}

theorem IsRow.get {Q : Nat → Prop} : ∀ {ts : List T} {xs : List Value} {i : Nat} (hi : i < ts.length), IsRow h Q ts xs → IsRe h Q ts[i] ((xs.drop (i * 9)).take 9)
  | t :: ts, xs, 0, hi, hr => by
    simp only [IsRow] at hr
    obtain ⟨v, vs', rfl, h1, h2⟩ := hr
    have hv := h1.len
    simp only [List.getElem_cons_zero, Nat.zero_mul, List.drop_zero]
    rw [List.take_append_of_le_length (by omega), List.take_of_length_le (by omega)]
    exact h1
  | t :: ts, xs, i + 1, hi, hr => by
    simp only [IsRow] at hr
    obtain ⟨v, vs', rfl, h1, h2⟩ := hr
    have hv := h1.len
    simp only [List.getElem_cons_succ]
    have e : (v ++ vs').drop ((i + 1) * 9) = vs'.drop (i * 9) := by
      rw [List.drop_append, List.drop_eq_nil_of_le (by omega), List.nil_append]
      congr 1
      omega
    rw [e]
    exact IsRow.get (by simpa using hi) h2
theorem take_drop9 {l : List Value} {i m : Nat} (hi : i < m) : ((l.take (m * 9)).drop (i * 9)).take 9 = (l.drop (i * 9)).take 9 := by
  rw [List.drop_take, List.take_take]
  congr 1
  omega
theorem Kids.re {v : Value} {ts : List T} {k g : Nat} {s : W4} {mn mx : Int} (hk : Kids h n v ts) (h0 : ts = [] → v = .slice none 0 0) : IsRe h (fun b => n ≤ b) (.node k s mn mx g ts) (reL k s mn mx g v) := by
  simp only [IsRe]
  refine ⟨v, rfl, ?_⟩
  by_cases hts : ts = []
  · exact .inl ⟨hts, h0 hts⟩
  · obtain ⟨xs, ⟨hl, ho⟩, hrow⟩ := hk
    rcases ho with ⟨_, hz⟩ | ⟨b, cap, cur, rfl, e2, e3, e4, e5, e6, e7⟩
    · exact absurd (List.length_eq_zero_iff.1 hz) hts
    · refine .inr ⟨b, cap, cur, e2, rfl, e4, by rw [e6]; omega, e3, ?_⟩
      rw [e7]
      exact hrow.frame fun b hb _ => ⟨hb.1, rfl⟩

theorem Kids.flat {v : Value} {ts : List T} (k : Kids h n v ts) : flat v = true := by
  obtain ⟨xs, ⟨hl, ho⟩, hrow⟩ := k
  rcases ho with ⟨rfl, hz⟩ | ⟨b, cap, cur, rfl, _⟩ <;> rfl
mutual
/-- how many things there are -/
def szT : T → Nat
  | .node _ _ _ _ _ ts => szL ts + 1
def szL : List T → Nat
  | [] => 0
  | t :: ts => szT t + szL ts
end
theorem szT_pos (t : T) : 1 ≤ szT t := by cases t; simp [szT]
theorem szL_len : ∀ ts : List T, ts.length ≤ szL ts
  | [] => by simp
  | t :: ts => by have := szT_pos t; have := szL_len ts; simp only [szL, List.length_cons]; omega
theorem szL_get : ∀ {ts : List T} {i : Nat} (hi : i < ts.length), szT ts[i] ≤ szL ts
  | t :: ts, 0, _ => by simp only [szL, List.getElem_cons_zero]; omega
  | t :: ts, i + 1, hi => by
    have := szL_get (ts := ts) (i := i) (by simpa using hi)
    simp only [szL, List.getElem_cons_succ]; omega
theorem copied_spec : ∀ (m : Nat) {h : Heap} {Q : Nat → Prop} {t : T} {vs : List Value} {R : Value → Heap → Prop} {E : List PanicEntry → Heap → Prop}, szT t ≤ m → szT t ≤ 1000000 → IsRe h Q t vs →
    (∀ h' ws, Fm h.size h.size h h' → IsRe h' (fun b => h.size ≤ b) t ws → R (.agg ws.toArray) h') → CallsH Tryz.prog 32 #[.agg vs.toArray] h R E := by
  intro m
  induction m with
  | zero => intro h Q t vs R E hm; cases t; simp [szT] at hm
  | succ m ih =>
    intro h Q t vs R E hm hm0 ht hk
    cases t with
    | node kind s mn mx g ts =>
    have hlen : ts.length ≤ 1000000 := by
      have := szL_len ts
      simp only [szT] at hm0
      omega
    have ht0 := ht
    simp only [IsRe] at ht
    obtain ⟨kv, rfl, hkids⟩ := ht
    refine C32 ?_
    unfold S32
    refine new_rule fun h1 a1 => alloc_rule Tryz.zero36 fun h2 a2 => ?_
    have s1 := a1.size
    have s2 := a2.size
    have b1 : h2[h.size]? = some (.cells (reL kind s mn mx g kv).toArray 36 (0, 0)) := (a2.old h.size (by omega)).trans a1.at_
    have f2 : Fm h.size h.size h h2 := (Fm.al a1 (Nat.le_refl _)).trans (Fm.al a2 (by omega))
    rw [Tryz.fa36_5, addr_add, Nat.zero_add, pLoad_one Tryz.agg34 (v := kv) (by rw [hcell_of b1]; rfl), Tryz.fa36_5, addr_add, Nat.zero_add]
    refine store1 b1 Tryz.size34 rfl (by simp [reL]) fun h3 hu3 => ?_
    have s3 := hu3.size
    have hkv : ∃ q c, kv = .slice q ts.length c := by
      rcases hkids with ⟨rfl, rfl⟩ | ⟨b, cap, cur, _, rfl, _⟩
      · exact ⟨_, _, rfl⟩
      · exact ⟨_, _, rfl⟩
    obtain ⟨q, cc, rfl⟩ := hkv
    rw [reads_rlen Tryz.underlying34]
    refine Loop1.fuel (fun k a h' => ∃ i v, i ≤ ts.length ∧ k = ts.length - i ∧ a = .int .i64 i ∧ Fm h.size h.size h h' ∧ h2.size ≤ h'.size ∧ h'[h.size]? = some (.cells (reL kind s mn mx g v).toArray 36 (0, 0)) ∧
      h'[h1.size]? = h2[h1.size]? ∧ Kids h' h2.size v (ts.take i) ∧ (i = 0 → v = .slice none 0 0)) (n := ts.length)
      ⟨0, .slice none 0 0, by omega, by simp, rfl, f2.trans (Fm.upd hu3 (.inl (Nat.le_refl _))), by omega, hu3.same, hu3.other h1.size (by omega), by simpa using Kids.nil _ _, fun _ => rfl⟩ fun k a h4 hi => ?_
    obtain ⟨i, v, hi, rfl, rfl, f4, hs4, hb4, hb24, hkid, hv0⟩ := hi
    have s4 := f4.size
    rw [reads_lt, boolV_bool]
    refine bcase_of (fun hc => ?_) (fun hc => ?_)
    · have hlt : i < ts.length := by have := of_decide_eq_true hc; omega
      rcases hkids with ⟨rfl, _⟩ | ⟨bk, cap, cur, hQ, hkv, hcap, hcur, hbk, hrow⟩
      · simp at hlt
      cases hkv
      have hbk4 := (f4.same bk (at_lt hbk) (by have := at_lt hbk; omega)).trans hbk
      rw [reads_idxRow Tryz.underlying34 Tryz.size36 hlt, addr_add, Nat.zero_add]
      refine load_row hbk4 Tryz.agg36 (by omega) ?_
      have htk : IsRe h Q ts[i] ((cur.toList.drop (i * 9)).take 9) := by
        have := hrow.get hlt
        rwa [take_drop9 hlt] at this
      refine alloc_rule Tryz.zero36 fun h5 a5 => ?_
      have s5 := a5.size
      refine storeFull a5.at_ (xs := ((cur.toList.drop (i * 9)).take 9).toArray) (by rw [Tryz.size36]; simp only [List.size_toArray, htk.len]) (by simp only [List.size_toArray, htk.len]; rfl) (by simpa using htk.flat) fun h6 hu6 => ?_
      have s6 := hu6.size
      have e6 : ∀ b, b < h4.size → h6[b]? = h4[b]? := fun b hb => (hu6.other b (by omega)).trans (a5.old b hb)
      have hb6 := (e6 h.size (by omega)).trans hb4
      refine ⟨fun h' => h'[h.size]? = some (.cells (reL kind s mn mx g v).toArray 36 (0, 0)) ∧ h'[h4.size]? = some (.cells ((cur.toList.drop (i * 9)).take 9).toArray 36 (0, 0)), ⟨hb6, hu6.same⟩, ?_⟩
      refine readsS_lift (fun h k => Tryz.fa36_5) ?_
      rw [addr_add, Nat.zero_add]
      refine pLoadS_one Tryz.agg34 (v := v) (fun h' hh => by rw [hcell_of hh.1]; rfl) ?_
      refine pLoadS_all (by rw [Tryz.agg36]; simp only [List.size_toArray, htk.len]) (fun h' hh => hh.2) ?_
      refine ⟨?_, trivial⟩
      have f6 : Fm h.size h.size h h6 := (f4.trans (Fm.al a5 (by omega))).trans (Fm.upd hu6 (.inl (by omega)))
      have htk6 : IsRe h6 (fun b => b < h.size) ts[i] ((cur.toList.drop (i * 9)).take 9) := htk.frame fun b hb hlt => ⟨hlt, f6.same b hlt (by omega)⟩
      have hsz : szT ts[i] ≤ szL ts := szL_get hlt
      refine ih (by simp only [szT] at hm; omega) (by simp only [szT] at hm0; omega) htk6 fun h7 ws f7 ht7 => ?_
      have s7 := f7.size
      have e7 : ∀ b, b < h6.size → h7[b]? = h6[b]? := fun b hb => f7.same b hb (by omega)
      refine ⟨⟨(e7 h.size (by omega)).trans hb6, (e7 h4.size (by omega)).trans hu6.same⟩, ?_, trivial⟩
      have hkid7 : Kids h7 h2.size v (ts.take i) := hkid.frame fun b h1 h2 => (e7 b (by omega)).trans (e6 b h2)
      refine slice1_rule Tryz.info36 Tryz.underlying34 (by simp [Value.cells, ht7.len]) (by omega) (by omega) fun h8 a8 => ?_
      have s8 := a8.size
      refine ⟨⟨(a8.old h.size (by omega)).trans ((e7 h.size (by omega)).trans hb6), (a8.old h4.size (by omega)).trans ((e7 h4.size (by omega)).trans hu6.same)⟩, ?_, trivial⟩
      have hkid6 : Kids h6 h2.size v (ts.take i) := hkid.frame fun b h1 h2 => e6 b h2
      refine push_append hkid7 (hkid6.apart (by omega) ht7) (by omega) (by simp; omega) a8 fun v' h9 hk9 hf9 => ?_
      have s9 := (hf9 h9.size).size
      refine ⟨trivial, ?_⟩
      rw [Tryz.fa36_5, addr_add, Nat.zero_add]
      refine ⟨?_, trivial⟩
      have b9 := ((hf9 h9.size).same h.size (by omega) (by omega)).trans ((e7 h.size (by omega)).trans hb6)
      refine store1 b9 Tryz.size34 hk9.flat (by simp [reL]) fun h10 hu10 => ?_
      have s10 := hu10.size
      refine ⟨trivial, ?_⟩
      rw [reads_add, wrap_n1 _ (by omega)]
      have f9 : Fm h.size h.size h7 h9 := (hf9 h.size).less (by omega)
      refine ⟨ts.length - (i + 1), by omega, i + 1, v', by omega, rfl, rfl, ((f6.trans ⟨f7.size, fun b hb _ => e7 b (by omega)⟩).trans f9).trans (Fm.upd hu10 (.inl (Nat.le_refl _))), by omega, hu10.same, ?_, ?_, by omega⟩
      · rw [hu10.other h1.size (by omega), (hf9 h9.size).same h1.size (by omega) (by omega), e7 h1.size (by omega), e6 h1.size (by omega), hb24]
      · rw [List.take_add_one, List.getElem?_eq_getElem hlt]
        exact hk9.frame fun b hb _ => hu10.other b (by omega)
    · have hil : i = ts.length := by have := of_decide_eq_false hc; omega
      subst hil
      rw [List.take_length] at hkid
      refine load_all hb4 Tryz.agg36 ?_
      refine ret_re (t := .node kind s mn mx g ts) (vs := reL kind s mn mx g v) (Q := fun b => h2.size ≤ b) (hb24.trans a2.at_) rfl (fun x hx => by omega) (hkid.re fun e => hv0 (by rw [e]; rfl)) fun h5 hu5 ht5 => ?_
      exact hk h5 _ (f4.trans (Fm.upd hu5 (.inl (by omega)))) (ht5.frame fun b hb _ => ⟨by omega, rfl⟩)

theorem tree_spec {b : Nat} {t : T} {vs : List Value} {Q : Nat → Prop} (hb : h[b]? = some (.cells (vs ++ [Value.int .i64 gr, Value.bool ext]).toArray 66 (0, 0))) (ht : IsRe h Q t vs) (hs : szT t ≤ 1000000)
    (hk : ∀ h' ws, Fm h.size h.size h h' → IsRe h' (fun b => h.size ≤ b) t ws → R (.agg ws.toArray) h') : CallsH Tryz.prog 13 #[ptr b] h R E := by
  refine C13 ?_
  unfold S13
  refine alloc_rule Tryz.zero36 fun h1 a1 => ?_
  have s1 := a1.size
  have hlt := at_lt hb
  have hb1 := (a1.old b hlt).trans hb
  rw [Tryz.eql24_s, boolV_bool, bcase_false, reads_nil, Tryz.fa66_0, addr_add]
  refine load_row (off := 0) (n := 9) hb1 Tryz.agg36 (by simp [ht.len]) ?_
  have e : ((vs ++ [Value.int .i64 gr, Value.bool ext]).toArray.toList.drop 0).take 9 = vs := by
    simp only [List.drop_zero]
    rw [List.take_append_of_le_length (by rw [ht.len]; omega), List.take_of_length_le (by rw [ht.len]; omega)]
  rw [e]
  refine copied_spec _ (Nat.le_refl _) hs (ht.frame (Q' := fun _ => True) fun x _ hx => ⟨trivial, a1.old x hx⟩) fun h2 ws f2 ht2 => ?_
  have s2 := f2.size
  refine ret_re (Q := fun x => h1.size ≤ x) ((f2.same h.size (by omega) (by omega)).trans a1.at_) rfl (fun x hx => by omega) ht2 fun h3 hu3 ht3 => ?_
  have f12 : Fm h.size h.size h1 h2 := ⟨f2.size, fun k hk _ => f2.same k (by omega) (by omega)⟩
  exact hk h3 ws (((Fm.al a1 (Nat.le_refl _)).trans f12).trans (Fm.upd hu3 (.inl (Nat.le_refl _)))) (ht3.frame fun x hx _ => ⟨by omega, rfl⟩)
theorem groups_spec {b : Nat} {vs : List Value} (hl : vs.length = 9) (hb : h[b]? = some (.cells (vs ++ [Value.int .i64 gr, Value.bool ext]).toArray 66 (0, 0))) (hk : R (.int .i64 gr) h) : CallsH Tryz.prog 12 #[ptr b] h R E := by
  refine C12 ?_
  unfold S12
  rw [Tryz.eql24_s, boolV_bool, bcase_false, reads_nil, Tryz.fa66_1, addr_add, pLoad_one (v := .int .i64 gr) Tryz.agg3]
  · exact hk
  · rw [hcell_of hb]
    simp [hl]
end Rt
end Go.Proofs

set_option maxRecDepth 100000
namespace Go.Proofs
open Go.Vcg
namespace Rt
attribute [local congr] Reads.congr ReadsS.congr pLoad.congr pLoadS.congr pStore.congr Runs.congr CallsH.congr bcase.congr boolV.congr Stable.congr pAlloc.congr
variable {S : Glb} {n : Nat} {h : Heap} {r : Nat} {bv : Value} {l : List UInt8} {p : Nat} {ext : Bool} {op gr : Nat} {R : Value → Heap → Prop} {E : List PanicEntry → Heap → Prop}

theorem put_word {s : W4} {c : UInt8} (hs : s.ok) : ∃ x : Nat, x < 2 ^ 64 ∧ s.vals[c.toNat / 64]? = some (.int .u64 x) ∧ (s.put c).vals.toArray = s.vals.toArray.setIfInBounds (c.toNat / 64) (.int .u64 ((x ||| 2 ^ (c.toNat % 64) : Nat) : Int)) := by
  obtain ⟨h1, h2, h3, h4⟩ := hs
  have hc := c.toNat_lt
  rcases (by omega : c.toNat / 64 = 0 ∨ c.toNat / 64 = 1 ∨ c.toNat / 64 = 2 ∨ c.toNat / 64 = 3) with hq | hq | hq | hq
  · exact ⟨s.a, h1, by rw [hq]; rfl, by simp [W4.put, hq, W4.vals]⟩
  · exact ⟨s.b, h2, by rw [hq]; rfl, by simp [W4.put, hq, W4.vals]⟩
  · exact ⟨s.c, h3, by rw [hq]; rfl, by simp [W4.put, hq, W4.vals]⟩
  · exact ⟨s.d, h4, by rw [hq]; rfl, by simp [W4.put, hq, W4.vals]⟩
theorem vals_flat {s : W4} : ∀ v ∈ s.vals.toArray.toList, flat v = true := by
  intro v hv
  simp only [W4.vals, List.mem_cons, List.not_mem_nil, or_false] at hv
  rcases hv with rfl | rfl | rfl | rfl <;> rfl

theorem add_spec {s : W4} {c : UInt8} (hs : s.ok) (hk : ∀ h', Fm h.size h.size h h' → R (.agg (s.put c).vals.toArray) h') : CallsH Tryz.prog 33 #[.agg s.vals.toArray, .int .u8 c.toNat] h R E := by
  refine C33 ?_
  unfold S33
  refine new_rule fun h1 a1 => alloc_rule Tryz.zero33 fun h2 a2 => ?_
  have s1 := a1.size
  have s2 := a2.size
  have b1 : h2[h.size]? = some (.cells s.vals.toArray 33 (0, 0)) := (a2.old h.size (by omega)).trans a1.at_
  have hc : c.toNat / 64 < 4 := by have := c.toNat_lt; omega
  have hm : c.toNat % 64 < 64 := Nat.mod_lt _ (by omega)
  have hn : ¬ ((c.toNat % 64 : Nat) : Int) < 0 := by omega
  obtain ⟨x, hx, hv, he⟩ := put_word (c := c) hs
  rw [reads_quo (by omega : (64 : Int) ≠ 0), u8_quo, reads_idxArr Tryz.underlying33 Tryz.size31 hc, addr_add, Nat.zero_add, Nat.mul_one, pLoad_one (v := .int .u64 x) Tryz.agg31 (by rw [hcell_of b1]; simpa using hv),
    reads_rem (by omega : (64 : Int) ≠ 0), u8_rem, reads_shl hn, reads_or, or_word hx hm, reads_idxArr Tryz.underlying33 Tryz.size31 hc, addr_add, Nat.zero_add, Nat.mul_one]
  refine store1 b1 Tryz.size31 rfl (by simp [W4.vals]; omega) fun h3 hu3 => ?_
  have b3 := hu3.same
  rw [← he] at b3
  refine load_all b3 Tryz.agg33 ?_
  refine ret_full ((hu3.other h1.size (by omega)).trans a2.at_) Tryz.size33 Tryz.agg33 rfl vals_flat fun h4 hu4 => ?_
  exact hk h4 ((((Fm.al a1 (Nat.le_refl _)).trans (Fm.al a2 (by omega))).trans (Fm.upd hu3 (.inl (Nat.le_refl _)))).trans (Fm.upd hu4 (.inl (by omega))))

theorem one_spec {c : UInt8} (hk : ∀ h', Fm h.size h.size h h' → R (.agg (reL 1 (setOf [c]) 0 0 0 (.slice none 0 0)).toArray) h') : CallsH Tryz.prog 15 #[.int .u8 c.toNat] h R E := by
  refine C15 ?_
  unfold S15
  refine alloc_rule Tryz.zero36 fun h1 a1 => ?_
  have s1 := a1.size
  rw [Tryz.bd33]
  refine add_spec (s := W4.zero) W4.zero_ok fun h2 f2 => ?_
  have e : (Value.agg (W4.put W4.zero c).vals.toArray) = .agg #[.int .u64 (setOf [c]).a, .int .u64 (setOf [c]).b, .int .u64 (setOf [c]).c, .int .u64 (setOf [c]).d] := rfl
  rw [e, Tryz.bd36_0_1]
  have f12 : Fm h.size h.size h1 h2 := ⟨f2.size, fun k hk _ => f2.same k (by omega) (by omega)⟩
  refine ret_re (t := single c) (vs := reL 1 (setOf [c]) 0 0 0 (.slice none 0 0)) (Q := fun _ => False) ((f2.same h.size (by omega) (by omega)).trans a1.at_) rfl (fun _ h => h.elim) IsRe.leaf fun h3 hu3 ht3 => ?_
  exact hk h3 (((Fm.al a1 (Nat.le_refl _)).trans f12).trans (Fm.upd hu3 (.inl (Nat.le_refl _))))
end Rt
end Go.Proofs

set_option maxRecDepth 100000
namespace Go.Proofs
open Go.Vcg
namespace Rt
attribute [local congr] Reads.congr ReadsS.congr pLoad.congr pLoadS.congr pStore.congr Runs.congr CallsH.congr bcase.congr boolV.congr Stable.congr pAlloc.congr
variable {S : Glb} {n : Nat} {h : Heap} {r : Nat} {bv : Value} {l : List UInt8} {p : Nat} {ext : Bool} {op gr : Nat} {R : Value → Heap → Prop} {E : List PanicEntry → Heap → Prop}

def bval (c : UInt8) : Value := .int .u8 c.toNat
/-- a row of bytes that the call owns -/
def ByteRow (h : Heap) (n : Nat) (v : Value) (l : List UInt8) : Prop := Owns h n 5 1 v l.length (l.map bval)
theorem ByteRow.is {v : Value} (b : ByteRow h n v l) : IsBytes h v l := by
  obtain ⟨hl, ho⟩ := b
  rcases ho with ⟨rfl, hz⟩ | ⟨g, cap, cur, rfl, e2, e3, e4, e5, e6, e7⟩
  · exact .inl ⟨rfl, List.length_eq_zero_iff.1 hz⟩
  · refine .inr ⟨g, 0, cap, rfl, e4, fun i hi => ?_⟩
    rw [hcell_of e3]
    simp only [Nat.zero_add, Nat.mul_one] at *
    have : (cur.toList.take l.length)[i]? = (l.map bval)[i]? := by rw [e7]
    rw [List.getElem?_take, if_pos hi] at this
    simpa [hi, bval] using this
theorem push_byte {v : Value} {c : UInt8} {K : Value → Heap → Prop} (b : ByteRow h n v l) (hn : n ≤ h.size) (hlen : l.length ≤ 1000000000) (hK : ∀ v' h', ByteRow h' n v' (l ++ [c]) → (∀ r, Fm n r h h') → K v' h') :
    Runs Tryz.prog (vS (Instr.buildSlice 29 1 #[(0, .int .u8 c.toNat)])) h (fun s h1 => Runs Tryz.prog (builtin .append #[29, 29] 29 #[false, false] #[v, s]) h1 K E) E := by
  refine slice1_rule Tryz.info5 Tryz.underlying29 rfl (by omega) (by omega) fun h1 a1 => ?_
  have s1 := a1.size
  have ho : Owns h1 n 5 1 v l.length (l.map bval) := by
    obtain ⟨hl, ho⟩ := b
    refine ⟨hl, ho.imp id ?_⟩
    rintro ⟨g, cap, cur, e1, e2, e3, e4⟩
    exact ⟨g, cap, cur, e1, e2, (a1.old g (at_lt e3)).trans e3, e4⟩
  refine runs_append' (size := 1) (bytes := 1) (news := [bval c]) Tryz.info5 Tryz.underlying29 rfl (by omega) ho rfl ?_ ?_ (by simp [maxLen]; omega) (by omega) (by omega) fun v' h2 ho' hg hnil hat => ?_
  · intro j u hj
    rw [addr_add, Nat.zero_add, hcell_of a1.at_]
    simpa [Value.cells, bval] using hj
  · intro u hu
    simp only [List.mem_cons, List.not_mem_nil, or_false] at hu
    subst hu
    rfl
  · refine hK v' h2 ?_ fun r => ?_
    · unfold ByteRow
      simpa using ho'
    · refine ⟨by have := hg.size; omega, fun k hk _ => ?_⟩
      rw [hg.block k (by omega) ?_, a1.old k (by omega)]
      intro e
      rcases ho.2 with ⟨rfl, _⟩ | ⟨g, cap, cur, rfl, e2, _⟩
      · cases e
      · have : k = g := by simpa [Value.ownBlock] using e
        omega

def moreSigns : List UInt8 := [40, 41, 43, 63, 123, 125, 124]
def qByte (ext : Bool) (c : UInt8) : List UInt8 :=
  if c = 10 then [92, 110] else if basSigns.contains c then [92, c] else if ext && moreSigns.contains c then [92, c] else [c]
def quoteM (s : List UInt8) (ext : Bool) : List UInt8 := s.flatMap (qByte ext)
theorem qByte_len (c : UInt8) : (qByte ext c).length ≤ 2 := by
  unfold qByte
  split
  · simp
  · split
    · simp
    · split <;> simp
theorem quoteM_len : ∀ (s : List UInt8), (quoteM s ext).length ≤ 2 * s.length
  | [] => by simp [quoteM]
  | c :: s => by
    have := quoteM_len s
    have := qByte_len (ext := ext) c
    simp only [quoteM, List.flatMap_cons, List.length_append, List.length_cons] at *
    omega

theorem quote_spec {s : List UInt8} (hs : s.length ≤ 10000000) (hk : ∀ h', Fm h.size h.size h h' → R (str (quoteM s ext)) h') : CallsH Tryz.prog 9 #[str s, .bool ext] h R E := by
  refine C9 ?_
  unfold S9
  rw [reads_slen Tryz.underlying9]
  refine Loop2.fuel (fun k v a h' => ∃ i, i ≤ s.length ∧ k = s.length - i ∧ a = .int .i64 i ∧ Fm h.size h.size h h' ∧ ByteRow h' h.size v (quoteM (s.take i) ext)) (n := s.length)
    ⟨0, by omega, by simp, rfl, Fm.refl .., by simp [quoteM, ByteRow, Owns.nil]⟩ fun k v a h1 hi => ?_
  obtain ⟨i, hi, rfl, rfl, f1, hrow⟩ := hi
  have s1 := f1.size
  have hql := quoteM_len (ext := ext) (s.take i)
  have htl : (s.take i).length ≤ s.length := by simp; omega
  rw [reads_lt, boolV_bool]
  refine bcase_of (fun hc => ?_) (fun hc => ?_)
  · have hlt : i < s.length := by have := of_decide_eq_true hc; omega
    have hq : quoteM (s.take (i + 1)) ext = quoteM (s.take i) ext ++ qByte ext s[i] := by
      unfold quoteM
      rw [List.take_add_one, List.getElem?_eq_getElem hlt, List.flatMap_append]
      simp
    have next : ∀ {v' : Value} {h' : Heap}, (∀ r, Fm h.size r h1 h') → ByteRow h' h.size v' (quoteM (s.take i) ext ++ qByte ext s[i]) →
        Reads Tryz.prog (binS .add 3 true (.int .i64 i) (.int .i64 1)) h' fun t36 => ∃ j, j < s.length - i ∧ ∃ i, i ≤ s.length ∧ j = s.length - i ∧ t36 = .int .i64 i ∧ Fm h.size h.size h h' ∧ ByteRow h' h.size v' (quoteM (s.take i) ext) := by
      intro v' h' f hr
      rw [reads_add, wrap_n1 _ (by omega)]
      exact ⟨s.length - (i + 1), by omega, i + 1, by omega, rfl, rfl, f1.trans (f h.size), by rw [hq]; exact hr⟩
    rw [reads_sindex Tryz.underlying9 hlt, show (Value.int IntKind.u8 10) = .int .u8 ((10 : UInt8).toNat : Int) from rfl, reads_eq, dec_u8_eq, boolV_bool]
    have two : ∀ (c : UInt8), qByte ext s[i] = [92, c] → Runs Tryz.prog (vS (Instr.buildSlice 29 1 #[(0, .int .u8 92)])) h1 (fun t30 h2 => Runs Tryz.prog (builtin .append #[29, 29] 29 #[false, false] #[v, t30]) h2 (fun t31 h3 =>
        Runs Tryz.prog (vS (Instr.buildSlice 29 1 #[(0, .int .u8 c.toNat)])) h3 (fun t34 h4 => Runs Tryz.prog (builtin .append #[29, 29] 29 #[false, false] #[t31, t34]) h4 (fun t35 h5 =>
        Reads Tryz.prog (binS .add 3 true (.int .i64 i) (.int .i64 1)) h5 fun t36 => ∃ j, j < s.length - i ∧ ∃ i, i ≤ s.length ∧ j = s.length - i ∧ t36 = .int .i64 i ∧ Fm h.size h.size h h5 ∧ ByteRow h5 h.size t35 (quoteM (s.take i) ext)) E) E) E) E := by
      intro c hc
      refine push_byte (c := 92) hrow s1 (by omega) fun v2 h2 hr2 hf2 => ?_
      refine push_byte (c := c) hr2 (by have := (hf2 0).size; omega) (by simp; omega) fun v3 h3 hr3 hf3 => ?_
      refine next (fun r => (hf2 r).trans (hf3 r)) ?_
      rw [hc]
      simpa using hr3
    have one : qByte ext s[i] = [s[i]] → Runs Tryz.prog (vS (Instr.buildSlice 29 1 #[(0, .int .u8 s[i].toNat)])) h1 (fun t30 h2 => Runs Tryz.prog (builtin .append #[29, 29] 29 #[false, false] #[v, t30]) h2 (fun t35 h5 =>
        Reads Tryz.prog (binS .add 3 true (.int .i64 i) (.int .i64 1)) h5 fun t36 => ∃ j, j < s.length - i ∧ ∃ i, i ≤ s.length ∧ j = s.length - i ∧ t36 = .int .i64 i ∧ Fm h.size h.size h h5 ∧ ByteRow h5 h.size t35 (quoteM (s.take i) ext)) E) E := by
      intro hc
      refine push_byte (c := s[i]) hrow s1 (by omega) fun v2 h2 hr2 hf2 => next hf2 ?_
      rw [hc]
      exact hr2
    refine bcase_of (fun h10 => ?_) (fun h10 => ?_)
    · have h10 := of_decide_eq_true h10
      exact two 110 (by simp [qByte, h10])
    · have h10 := of_decide_eq_false h10
      refine sindex_spec ?_
      rw [reads_ge, index_ge, boolV_bool]
      refine bcase_of (fun hb => ?_) (fun hb => ?_)
      · exact two s[i] (by simp only [qByte, h10, if_false]; rw [if_pos (show basSigns.contains s[i] = true from hb)])
      rw [boolV_bool]
      refine bcase_of (fun he => ?_) (fun he => ?_)
      · refine sindex_spec ?_
        rw [reads_ge, index_ge, boolV_bool]
        refine bcase_of (fun hm => ?_) (fun hm => ?_)
        · exact two s[i] (by simp only [qByte, h10, if_false]; rw [if_neg (fun e => by rw [show basSigns.contains s[i] = false from hb] at e; cases e), if_pos (by rw [he]; exact hm)])
        · exact one (by simp only [qByte, h10, if_false]; rw [if_neg (fun e => by rw [show basSigns.contains s[i] = false from hb] at e; cases e), if_neg (by rw [he, Bool.true_and]; exact fun e => by rw [show moreSigns.contains s[i] = false from hm] at e; cases e)])
      · exact one (by simp only [qByte, h10, if_false]; rw [if_neg (fun e => by rw [show basSigns.contains s[i] = false from hb] at e; cases e), if_neg (by simp [he])])
  · have hil : i = s.length := by have := of_decide_eq_false hc; omega
    subst hil
    rw [List.take_length] at hrow
    rw [reads_bstring hrow.is Tryz.underlying29 Tryz.underlying5 Tryz.underlying9]
    exact hk h1 f1
end Rt
end Go.Proofs

set_option maxRecDepth 100000
namespace Go.Proofs
open Go.Vcg
namespace Rt
variable {S : Glb} {n : Nat} {h : Heap} {r : Nat} {bv : Value} {l : List UInt8} {p : Nat} {ext : Bool} {op gr : Nat} {R : Value → Heap → Prop} {E : List PanicEntry → Heap → Prop}

theorem runs_sbytes {K : Value → Heap → Prop}
    (hk : ∀ v h' c, Fm h.size h.size h h' → IsBytes h' v l → v = .slice (some ⟨h.size, 0, none⟩) l.length c → h.size < h'.size → K v h') : Runs Tryz.prog (vS (convert 9 29 (str l))) h K E := by
  intro w hw
  subst hw
  have hsz : (⟨l.toArray⟩ : ByteArray).size = l.length := by simp [ByteArray.size]
  have e := Go.Lib.run_convert_string_bytes (P := Tryz.prog) w 9 29 5 ⟨l.toArray⟩ Tryz.underlying9 Tryz.underlying29 Tryz.underlying5
  rw [hsz] at e
  unfold str
  simp only [vS, Sem.run_bind, e, Result.andThen_ok, Sem.run_pure, uponH]
  refine ⟨⟨rfl, rfl, rfl⟩, hk _ _ _ ⟨by rw [Go.Lib.bytesWorld_size]; omega, fun k hk _ => Go.Lib.bytesWorld_at_old w 5 _ k hk⟩ ?_ rfl (by rw [Go.Lib.bytesWorld_size]; omega)⟩
  refine .inr ⟨w.heap.size, 0, _, rfl, ?_, fun i hi => ?_⟩
  · have := grownCap_ge w l.length 0 5
    exact this
  · have := Go.Lib.bytesWorld_cell w 5 ⟨l.toArray⟩ i (by rw [hsz]; exact hi)
    rw [cell_eq] at this
    rw [Nat.zero_add, this]
    simp [List.getD, hi]
end Rt
end Go.Proofs

set_option maxRecDepth 100000
namespace Go.Proofs
open Go.Vcg
namespace Rt
theorem eqSet (a b c d a' b' c' d' : Int) (w : World) : (Op.equalIn 10000 33 (.agg #[.int .u64 a, .int .u64 b, .int .u64 c, .int .u64 d]) (.agg #[.int .u64 a', .int .u64 b', .int .u64 c', .int .u64 d'])).run Tryz.prog w = .ok (a == a' && (b == b' && (c == c' && d == d'))) w := by
  have h31 : ∀ (x y : Int) (w : World), (Op.equalIn 9999 31 (.int .u64 x) (.int .u64 y)).run Tryz.prog w = .ok (x == y) w := fun x y w => run_equalIn_int (P := Tryz.prog) w 9998 31 .u64 .u64 x y Tryz.underlying31
  have q0 : ∀ (x0 x1 x2 x3 : Value) (w : World), (part 31 #[x0, x1, x2, x3] 0).run Tryz.prog w = .ok x0 w := fun _ _ _ _ _ => by kernel_rfl
  have q1 : ∀ (x0 x1 x2 x3 : Value) (w : World), (part 31 #[x0, x1, x2, x3] 1).run Tryz.prog w = .ok x1 w := fun _ _ _ _ _ => by kernel_rfl
  have q2 : ∀ (x0 x1 x2 x3 : Value) (w : World), (part 31 #[x0, x1, x2, x3] 2).run Tryz.prog w = .ok x2 w := fun _ _ _ _ _ => by kernel_rfl
  have q3 : ∀ (x0 x1 x2 x3 : Value) (w : World), (part 31 #[x0, x1, x2, x3] 3).run Tryz.prog w = .ok x3 w := fun _ _ _ _ _ => by kernel_rfl
  rw [Op.equalIn]
  simp [Go.underlying, program, Sem.run, Tryz.underlying33, size_run Tryz.size31, Std.Legacy.Range.forIn_eq_forIn_range', List.range', h31, q0, q1, q2, q3]
  by_cases e1 : a = a' <;> by_cases e2 : b = b' <;> by_cases e3 : c = c' <;> by_cases e4 : d = d' <;> simp [e1, e2, e3, e4]
theorem guard33 (op : BinOp) (c : Bool) (xs ys : Array Value) (w : World) : (guardS op 33 c (.agg xs) (.agg ys)).run Tryz.prog w = .ok () w := by
  have e : Tryz.prog.eqGuardType Tryz.prog.depth 33 = false := by kernel_rfl
  cases op <;> simp [guardS, program, Sem.run, e]
theorem W4.inj {s u : W4} : s = u ↔ (s.a : Int) = u.a ∧ (s.b : Int) = u.b ∧ (s.c : Int) = u.c ∧ (s.d : Int) = u.d := by
  cases s; cases u; simp only [W4.mk.injEq]; omega
theorem reads_neqSet {c : Bool} {s u : W4} {h : Heap} {k : Value → Prop} : Reads Tryz.prog (binS .neq 33 c (.agg s.vals.toArray) (.agg u.vals.toArray)) h k = k (.bool (!decide (s = u))) := reads_pure fun w => by
  simp only [binS, Sem.run_bind, guard33, Result.andThen_ok]
  rw [run_neq_struct]
  have := eqSet s.a s.b s.c s.d u.a u.b u.c u.d w
  simp only [W4.vals]
  rw [this]
  simp only [Result.andThen_ok]
  congr 3
  have e : decide (s = u) = decide ((s.a : Int) = u.a ∧ (s.b : Int) = u.b ∧ (s.c : Int) = u.c ∧ (s.d : Int) = u.d) := decide_eq_decide.2 W4.inj
  rw [e]
  simp
  rfl
theorem reads_eqSet {c : Bool} {s u : W4} {h : Heap} {k : Value → Prop} : Reads Tryz.prog (binS .eql 33 c (.agg s.vals.toArray) (.agg u.vals.toArray)) h k = k (.bool (decide (s = u))) := reads_pure fun w => by
  simp only [binS, Sem.run_bind, guard33, Result.andThen_ok]
  rw [run_eql_struct]
  have := eqSet s.a s.b s.c s.d u.a u.b u.c u.d w
  simp only [W4.vals]
  rw [this]
  simp only [Result.andThen_ok]
  congr 2
  have e : decide (s = u) = decide ((s.a : Int) = u.a ∧ (s.b : Int) = u.b ∧ (s.c : Int) = u.c ∧ (s.d : Int) = u.d) := decide_eq_decide.2 W4.inj
  rw [e]
  simp
  rfl
end Rt
end Go.Proofs
