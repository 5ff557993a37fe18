/- A part of the proofs over this seat: Prs3. -/
import Derived.Test.YthlncmkeccgfeaaGreatDoorPrs2
set_option linter.unusedVariables false
set_option linter.unusedSimpArgs false
set_option maxRecDepth 100000
namespace Go.Proofs
open Go.Vcg
namespace Rt
attribute [local congr] Reads.congr ReadsS.congr pLoad.congr pLoadS.congr pStore.congr Runs.congr CallsH.congr bcase.congr boolV.congr Stable.congr pAlloc.congr
variable {S : Glb} {n : Nat} {h : Heap} {r : Nat} {bv : Value} {l : List UInt8} {p : Nat} {ext : Bool} {op gr : Nat} {R : Value → Heap → Prop} {E : List PanicEntry → Heap → Prop}

theorem pLoad_mono {P : Program} {T : TypeId} {a : Value} {k k' : Value → Prop} (hk : ∀ v, k v → k' v) (H : pLoad P T a h k) : pLoad P T a h k' := by
  unfold pLoad at *
  split at H
  · split at H
    · obtain ⟨v, h1, h2⟩ := H; exact ⟨v, h1, hk _ h2⟩
    · obtain ⟨v, h1, h2⟩ := H; exact ⟨v, h1, hk _ h2⟩
    · exact H.elim
  · exact H.elim
theorem load_one {P : Program} {T t : TypeId} {b : Nat} {v : Value} (hT : aggN P T = some none) (hb : h[b]? = some (.cells #[v] t (0, 0))) : pLoad P T (ptr b) h fun z => z = v := by
  unfold ptr
  rw [pLoad_one (v := v) hT (by rw [hcell_of hb]; rfl)]

theorem results11 {D : List Deferred} {a : Act} {w : World} {x y u v : Value} {fr : Fr} (ha : Agrees D 31 a fr) (h4 : Vcg.look fr 4 = some x) (h5 : Vcg.look fr 5 = some y)
    (hx : pLoad Tryz.prog 24 x w.heap fun z => z = u) (hy : pLoad Tryz.prog 26 y w.heap fun z => z = v) : (results Tryz.f11 a.tmps).run Tryz.prog w = .ok (.tuple #[u, v]) w := by
  have er : Tryz.f11.results = #[.cell 4 24, .cell 5 26] := by kernel_rfl
  have hr : retAll Tryz.prog [.cell 4 24, .cell 5 26] fr w.heap (fun vs => vs = [u, v]) := by
    simp only [retAll, h4, h5, need]
    refine pLoad_mono ?_ hx
    rintro z rfl
    refine pLoad_mono ?_ hy
    rintro z rfl
    rfl
  obtain ⟨vs, k1, rfl⟩ := retAll_sound ha _ _ hr
  rw [results_eq, er, Array.mapM_eq_mapM_toList (m := Sem), Sem.run_bind, Sem.run_map]
  simp only [k1]
  simp

theorem parse_ok {k : Nat} (hk0 : k ≤ 1000000) (gl : Gl S h) (hn : S.N ≤ h.size) (hb : IsBytes h bv l) (hbl : ∀ b o m c, bv = .slice (some ⟨b, o, none⟩) m c → b < h.size) (hlen : l.length ≤ 256) {t : T}
    (hm : wholeM k l ext = .ok (t, p, gr))
    (hk : ∀ h' b vs, Fm h.size h.size h h' → h.size ≤ b → h'[b]? = some (.cells (vs ++ [.int .i64 gr, .bool ext]).toArray 66 (0, 0)) → IsRe h' (fun x => h.size ≤ x ∧ x ≠ b) t vs → R (.tuple #[ptr b, .nilIface]) h') :
    CallsH Tryz.prog 11 #[bv, .bool ext] h R E := by
  intro w hw
  subst hw
  refine calls_of_wp_defers Tryz.func11 body11_eq ?_
  have en : Tryz.f11.ntmps = 31 := by kernel_rfl
  refine piece (H := H11A) (E := fun _ _ => False) (D := []) (n := 31) (outs := [0, 1, 4, 5]) (rets := []) (fr := enumF 0 [bv, .bool ext])
    (kn := fun vs h2 => ∃ h1, Al w.heap h1 (.cells #[.pointer none] 24 (0, 0)) ∧ Al h1 h2 (.cells #[.nilIface] 26 (0, 0)) ∧ vs = [bv, .bool ext, ptr w.heap.size, ptr h1.size]) (kr := fun _ _ => False)
    Tryz.mixed (by kernel_rfl) ?_ (Same.refl w) ?_ (fun _ _ _ _ h _ => h.elim) (fun _ _ _ _ _ h => h.elim) ?_
  · exact agrees_of rfl (by simp [en]) (by simp [enumF])
  · rw [← V11A]
    unfold S11A
    refine alloc_rule Tryz.zero24 fun h1 a1 => alloc_rule Tryz.zero26 fun h2 a2 => ?_
    exact ⟨h1, a1, a2, rfl⟩
  rintro vs a2 w2 ha2 hw2 ⟨h1, al1, al2, rfl⟩
  have s1 := al1.size
  have s2 := al2.size
  refine piece (H := H11B) (E := fun _ _ => False) (D := []) (n := 31) (w₀ := w) (outs := [0, 1, 4, 5, 6]) (rets := [])
    (kn := fun vs h3 => Al w2.heap h3 (.cells #[bv, .int .i64 0, .bool ext, .int .i64 0, .int .i64 0] 57 (0, 0)) ∧ vs = [bv, .bool ext, ptr w.heap.size, ptr h1.size, ptr w2.heap.size]) (kr := fun _ _ => False)
    Tryz.mixed (by kernel_rfl) ha2 hw2 ?_ (fun _ _ _ _ h _ => h.elim) (fun _ _ _ _ _ h => h.elim) ?_
  · rw [← V11B]
    unfold S11B
    have : ∃ q m c, bv = .slice q m c := by
      rcases hb with ⟨rfl, _⟩ | ⟨b, o, c, rfl, _⟩
      · exact ⟨_, _, _, rfl⟩
      · exact ⟨_, _, _, rfl⟩
    obtain ⟨q, m, c, rfl⟩ := this
    rw [Tryz.bd57_0_2]
    refine new_rule fun h3 a3 => ?_
    exact ⟨a3, rfl⟩
  rintro vs a3 w3 ha3 hw3 ⟨al3, rfl⟩
  have s3 := al3.size
  have f3 : Fm w.heap.size w.heap.size w.heap w3.heap := ((Fm.al al1 (Nat.le_refl _)).trans (Fm.al al2 (by omega))).trans (Fm.al al3 (by omega))
  have c3 : Cx S w.heap.size w3.heap w2.heap.size bv l 0 ext 0 0 :=
    ⟨al3.at_, hb.frame fun b o c hv => f3.same b (hbl b o _ c hv) (by have := hbl b o _ c hv; omega), fun b o m c hv => ⟨by have := hbl b o m c hv; omega, hbl b o m c hv⟩, Nat.zero_le _, hlen, gl.fm f3 hn hn, by omega, hn, by omega, Nat.le_refl _, by omega⟩
  refine piece (H := H11C) (E := fun _ _ => False) (D := []) (n := 31) (w₀ := w) (outs := [0, 1, 4, 5, 6]) (rets := [])
    (kn := fun vs h4 => h4 = w3.heap ∧ vs = [bv, .bool ext, ptr w.heap.size, ptr h1.size, ptr w2.heap.size]) (kr := fun _ _ => False)
    Tryz.mixed (by kernel_rfl) ha3 hw3 ?_ (fun _ _ _ _ h _ => h.elim) (fun _ _ _ _ _ h => h.elim) ?_
  · rw [← V11C]
    unfold S11C
    rw [reads_blen c3.by_ Tryz.underlying29, reads_gt, boolV_bool]
    refine bcase_of (fun hc => ?_) (fun _ => ⟨rfl, rfl⟩)
    have := of_decide_eq_true hc
    omega
  rintro vs a4 w4 ha4 hw4 ⟨hh4, rfl⟩
  refine wp_seq (defer_wp (x := ptr w.heap.size) (y := ptr h1.size) (ha4.vals 4 _ rfl) (ha4.vals 5 _ rfl) (by rw [ha4.size]; omega) ?_)
  have ha5 : Agrees [{ target := .fn (.func 29) #[ptr w.heap.size, ptr h1.size], args := #[] }] 31 { tmps := a4.tmps.setIfInBounds 20 (.func (.func 29) #[] #[ptr w.heap.size, ptr h1.size]), defers := { target := .fn (.func 29) #[ptr w.heap.size, ptr h1.size], args := #[] } :: a4.defers }
      (zipF [0, 1, 4, 5, 6] [bv, .bool ext, ptr w.heap.size, ptr h1.size, ptr w2.heap.size] []) := by
    refine agrees_of (by rw [ha4.defers]) (by simp [ha4.size]) ?_
    intro q hq
    simp only [zipF, List.mem_cons, List.not_mem_nil, or_false] at hq
    rcases hq with rfl | rfl | rfl | rfl | rfl <;>
    · simp only
      rw [Array.getElem?_setIfInBounds_ne (by omega)]
      exact ha4.vals _ _ rfl
  refine last_piece (H := H11E) (E := fun _ _ => False) (w₀ := w) (outs := []) (rets := [4, 5]) (kn := fun _ _ => False)
    (kr := fun vs h' => vs = [ptr w.heap.size, ptr h1.size] ∧ ∃ b ws, Fm w.heap.size w.heap.size w.heap h' ∧ w.heap.size ≤ b ∧ h'[b]? = some (.cells (ws ++ [.int .i64 gr, .bool ext]).toArray 66 (0, 0)) ∧ IsRe h' (fun x => w.heap.size ≤ x ∧ x ≠ b) t ws ∧
      h'[w.heap.size]? = some (.cells #[ptr b] 24 (0, 0)) ∧ h'[h1.size]? = some (.cells #[.nilIface] 26 (0, 0))) Tryz.mixed (by kernel_rfl) ha5 hw4 ?_ (fun _ _ _ _ h _ => h.elim) ?_ (fun _ _ _ _ _ h => h.elim)
  · rw [← V11E]
    unfold S11E
    rw [hh4]
    refine whole_spec hk0 (c3.more (m := w3.heap.size) c3.nle (Nat.le_refl _)) ?_
    rw [hm]
    intro h5 ws f5 c5 ht5
    have s5 := f5.size
    refine alloc_rule Tryz.zero36 fun h6 a6 => ?_
    have s6 := a6.size
    refine storeFull a6.at_ (xs := ws.toArray) (by rw [Tryz.size36]; simp [ht5.len]) (by simp [ht5.len, Value.cells]) (by simpa using ht5.flat) fun h7 hu7 => ?_
    have s7 := hu7.size
    refine load_all hu7.same (by rw [Tryz.agg36]; simp [ht5.len]) ?_
    have c7 : Cx S w3.heap.size h7 w2.heap.size bv l p ext 0 gr := (c5.al a6).upd hu7 c5.nle (by have := c5.rlt; omega)
    have e7 : ∀ b, b < h5.size → h7[b]? = h5[b]? := fun b hb => (hu7.other b (by omega)).trans (a6.old b hb)
    rw [reads_nil, Tryz.fa57_4, addr_add, c7.ld4]
    have hl9 := ht5.len
    obtain ⟨x0, x1, x2, x3, x4, x5, x6, x7, x8, rfl⟩ : ∃ x0 x1 x2 x3 x4 x5 x6 x7 x8, ws = [x0, x1, x2, x3, x4, x5, x6, x7, x8] := by
      match ws, hl9 with
      | [x0, x1, x2, x3, x4, x5, x6, x7, x8], _ => exact ⟨_, _, _, _, _, _, _, _, _, rfl⟩
    rw [show (Value.agg [x0, x1, x2, x3, x4, x5, x6, x7, x8].toArray) = .agg #[x0, x1, x2, x3, x4, x5, x6, x7, x8] from rfl, Tryz.bd66_0_1_2]
    refine ⟨?_, trivial⟩
    refine new_rule fun h8 a8 => ?_
    have s8 := a8.size
    have e8 : ∀ b, b < w3.heap.size → b ≠ w2.heap.size → h8[b]? = w3.heap[b]? := fun b hb hr => (a8.old b (by omega)).trans ((e7 b (by omega)).trans (f5.same b hb hr))
    have b4 : h8[w.heap.size]? = some (.cells #[.pointer none] 24 (0, 0)) := (e8 w.heap.size (by omega) (by omega)).trans ((al3.old _ (by omega)).trans ((al2.old _ (by omega)).trans al1.at_))
    have b5 : h8[h1.size]? = some (.cells #[.nilIface] 26 (0, 0)) := (e8 h1.size (by omega) (by omega)).trans ((al3.old _ (by omega)).trans al2.at_)
    refine ⟨trivial, ?_, trivial⟩
    refine store1 b4 Tryz.size24 rfl (by simp) fun h9 hu9 => ?_
    have s9 := hu9.size
    refine ⟨trivial, ?_, trivial⟩
    refine store1 ((hu9.other h1.size (by omega)).trans b5) Tryz.size26 rfl (by simp) fun h10 hu10 => ?_
    have e10 : ∀ b, b ≠ w.heap.size → b ≠ h1.size → h10[b]? = h8[b]? := fun b h1 h2 => (hu10.other b h2).trans (hu9.other b h1)
    refine ⟨trivial, rfl, h7.size, [x0, x1, x2, x3, x4, x5, x6, x7, x8], ?_, by omega, (e10 h7.size (by omega) (by omega)).trans a8.at_, ?_, ?_, ?_⟩
    · refine ⟨by rw [hu10.size]; omega, fun b hb hb2 => ?_⟩
      rw [e10 b hb2 (by omega), e8 b (by omega) (by omega)]
      exact f3.same b hb hb2
    · exact ht5.frame fun b hb hlt => ⟨⟨by omega, by omega⟩, (e10 b (by omega) (by omega)).trans ((a8.old b (by omega)).trans (e7 b hlt))⟩
    · rw [hu10.other w.heap.size (by omega), hu9.same]; rfl
    · rw [hu10.same]; rfl
  rintro vs a6 w6 ha6 hw6 ⟨rfl, b, ws, f6, hbn, hbv, htv, h4, h5⟩
  simp only [bodyPostD]
  rw [ha6.defers]
  refine leaves_cons (f := 29) (args := #[ptr w.heap.size, ptr h1.size]) (by simp) ?_ ?_
  · have h29 : Tryz.prog.funcs[29]? = some Tryz.f29 := Tryz.func29
    have hname : Tryz.f29.name ≠ "runtime.NumGoroutine" := by have : (Tryz.f29.name == "runtime.NumGoroutine") = false := by kernel_rfl
                                                              simpa using this
    simp [invoke, callFunc, h29, hname, body29_eq]
  · refine CallsD.mono closure_quiet ?_
    rintro e u' w7 ⟨rfl, rfl, hs7, hh7⟩
    simp only [settle, Leaves]
    refine ⟨_, results11 ha6 rfl rfl (u := ptr b) (v := .nilIface) ?_ ?_, ⟨hw6.trans hs7, ?_⟩⟩
    · rw [hh7]; exact load_one Tryz.agg24 h4
    · rw [hh7]; exact load_one Tryz.agg26 h5
    · rw [hh7]; exact hk _ b ws f6 hbn hbv htv
end Rt
end Go.Proofs
