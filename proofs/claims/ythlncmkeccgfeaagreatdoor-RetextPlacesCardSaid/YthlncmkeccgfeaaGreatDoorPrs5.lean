/- A part of the proofs over this seat: Prs5. -/
import Derived.Test.YthlncmkeccgfeaaGreatDoorPrs4
set_option linter.unusedVariables false
set_option linter.unusedSimpArgs false
set_option maxRecDepth 100000
namespace Go.Proofs
open Go.Vcg Go.Extern
namespace Rt
attribute [local congr] Reads.congr ReadsS.congr pLoad.congr pLoadS.congr pStore.congr Runs.congr CallsH.congr bcase.congr boolV.congr Stable.congr pAlloc.congr
variable {S : Glb} {n : Nat} {h : Heap} {r : Nat} {bv : Value} {l : List UInt8} {p : Nat} {ext : Bool} {op gr : Nat} {R : Value → Heap → Prop} {E : List PanicEntry → Heap → Prop}

/-- the first steps of Parse -/
theorem parse_front (w : World) (hb : IsBytes w.heap bv l) (hq : ∀ (h1 : Heap) (a3 : Act) (w3 : World), Same w w3 → (∃ h2, Al w.heap h1 (.cells #[.pointer none] 24 (0, 0)) ∧ Al h1 h2 (.cells #[.nilIface] 26 (0, 0)) ∧ Al h2 w3.heap (.cells #[bv, .int .i64 0, .bool ext, .int .i64 0, .int .i64 0] 57 (0, 0))) →
      Agrees [] 31 a3 (zipF [0, 1, 4, 5, 6] [bv, .bool ext, ptr w.heap.size, ptr h1.size, ptr (w.heap.size + 2)] []) → (Code.seq c11C (.seq c11D c11E)).wp Tryz.prog (bodyPostD Tryz.prog Tryz.f11 (Post w R E)) a3 w3) :
    Calls Tryz.prog 11 #[bv, .bool ext] w (Post w R E) := by
  refine calls_of_wp_defers Tryz.func11 body11_eq ?_
  have en : Tryz.f11.ntmps = 31 := by kernel_rfl
  refine piece (H := H11A) (E := fun _ _ => False) (D := []) (n := 31) (outs := [0, 1, 4, 5]) (rets := []) (fr := enumF 0 [bv, .bool ext])
    (kn := fun vs h2 => ∃ h1, Al w.heap h1 (.cells #[.pointer none] 24 (0, 0)) ∧ Al h1 h2 (.cells #[.nilIface] 26 (0, 0)) ∧ vs = [bv, .bool ext, ptr w.heap.size, ptr h1.size]) (kr := fun _ _ => False)
    Tryz.mixed (by kernel_rfl) ?_ (Same.refl w) ?_ (fun _ _ _ _ h _ => h.elim) (fun _ _ _ _ _ h => h.elim) ?_
  · exact agrees_of rfl (by simp [en]) (by simp [enumF])
  · rw [← V11A]
    unfold S11A
    refine alloc_rule Tryz.zero24 fun h1 a1 => alloc_rule Tryz.zero26 fun h2 a2 => ?_
    exact ⟨h1, a1, a2, rfl⟩
  rintro vs a2 w2 ha2 hw2 ⟨h1, al1, al2, rfl⟩
  have s1 := al1.size
  have s2 := al2.size
  refine piece (H := H11B) (E := fun _ _ => False) (D := []) (n := 31) (w₀ := w) (outs := [0, 1, 4, 5, 6]) (rets := [])
    (kn := fun vs h3 => Al w2.heap h3 (.cells #[bv, .int .i64 0, .bool ext, .int .i64 0, .int .i64 0] 57 (0, 0)) ∧ vs = [bv, .bool ext, ptr w.heap.size, ptr h1.size, ptr w2.heap.size]) (kr := fun _ _ => False)
    Tryz.mixed (by kernel_rfl) ha2 hw2 ?_ (fun _ _ _ _ h _ => h.elim) (fun _ _ _ _ _ h => h.elim) ?_
  · rw [← V11B]
    unfold S11B
    have : ∃ q m c, bv = .slice q m c := by
      rcases hb with ⟨rfl, _⟩ | ⟨b, o, c, rfl, _⟩
      · exact ⟨_, _, _, rfl⟩
      · exact ⟨_, _, _, rfl⟩
    obtain ⟨q, m, c, rfl⟩ := this
    rw [Tryz.bd57_0_2]
    refine new_rule fun h3 a3 => ?_
    exact ⟨a3, rfl⟩
  rintro vs a3 w3 ha3 hw3 ⟨al3, rfl⟩
  have e2 : w2.heap.size = w.heap.size + 2 := by omega
  rw [e2] at ha3
  exact hq h1 a3 w3 hw3 ⟨w2.heap, al1, al2, al3⟩ ha3

theorem parse_bad {k : Nat} (hk0 : k ≤ 1000000) (gl : Gl S h) (hn : S.N ≤ h.size) (hb : IsBytes h bv l) (hbl : ∀ b o m c, bv = .slice (some ⟨b, o, none⟩) m c → b < h.size) (hlen : l.length ≤ 256) {code pos : Nat}
    (hm : wholeM k l ext = .bad code pos) (hk : ∀ h' e, Fm h.size h.size h h' → IsErr S h' h.size (if ext then 4 else 3) code pos e → R (.tuple #[.pointer none, e]) h') :
    CallsH Tryz.prog 11 #[bv, .bool ext] h R E := by
  intro w hw
  subst hw
  refine parse_front w hb fun h1 a3 w3 hw3 ⟨h2, al1, al2, al3⟩ ha3 => ?_
  have s1 := al1.size
  have s2 := al2.size
  have s3 := al3.size
  have f3 : Fm w.heap.size w.heap.size w.heap w3.heap := ((Fm.al al1 (Nat.le_refl _)).trans (Fm.al al2 (by omega))).trans (Fm.al al3 (by omega))
  have e2 : h2.size = w.heap.size + 2 := by omega
  have rd : w3.heap[w.heap.size + 2]? = some (.cells #[bv, .int .i64 0, .bool ext, .int .i64 0, .int .i64 0] 57 (0, 0)) := by rw [← e2]; exact al3.at_
  have c3 : Cx S w.heap.size w3.heap (w.heap.size + 2) bv l 0 ext 0 0 :=
    ⟨rd, hb.frame fun b o c hv => f3.same b (hbl b o _ c hv) (by have := hbl b o _ c hv; omega), fun b o m c hv => ⟨by have := hbl b o m c hv; omega, hbl b o m c hv⟩, Nat.zero_le _, hlen, gl.fm f3 hn hn, by omega, hn, by omega, Nat.le_refl _, by omega⟩
  refine piece (H := H11C) (E := fun _ _ => False) (D := []) (n := 31) (w₀ := w) (outs := [0, 1, 4, 5, 6]) (rets := [])
    (kn := fun vs h4 => h4 = w3.heap ∧ vs = [bv, .bool ext, ptr w.heap.size, ptr h1.size, ptr (w.heap.size + 2)]) (kr := fun _ _ => False)
    Tryz.mixed (by kernel_rfl) ha3 hw3 ?_ (fun _ _ _ _ h _ => h.elim) (fun _ _ _ _ _ h => h.elim) ?_
  · rw [← V11C]
    unfold S11C
    rw [reads_blen c3.by_ Tryz.underlying29, reads_gt, boolV_bool]
    refine bcase_of (fun hc => ?_) (fun _ => ⟨rfl, rfl⟩)
    have := of_decide_eq_true hc
    omega
  rintro vs a4 w4 ha4 hw4 ⟨hh4, rfl⟩
  refine wp_seq (defer_wp (x := ptr w.heap.size) (y := ptr h1.size) (ha4.vals 4 _ rfl) (ha4.vals 5 _ rfl) (by rw [ha4.size]; omega) ?_)
  have h6 : (a4.tmps.setIfInBounds 20 (.func (.func 29) #[] #[ptr w.heap.size, ptr h1.size]))[6]? = some (ptr (w.heap.size + 2)) := by
    rw [Array.getElem?_setIfInBounds_ne (by omega)]
    exact ha4.vals 6 _ rfl
  have g4 : Gl S w4.heap := by rw [hh4]; exact gl.fm f3 hn hn
  have hW := whole_spec (R := fun _ _ => False) (E := fun c h' => Fails S h' w4.heap.size ext code pos c ∧ Fm w4.heap.size (w.heap.size + 2) w4.heap h') (n := w.heap.size) hk0 (c := by rw [hh4]; exact c3) (by
    rw [hm]
    intro c h' hf f
    exact ⟨hf, f⟩) w4 rfl
  refine fails_wp (X := fun c w' => Same w w' ∧ Fails S w'.heap w4.heap.size ext code pos c ∧ Fm w4.heap.size (w.heap.size + 2) w4.heap w'.heap) h6 (by simp [ha4.size]) (hW.mono fun e w' he => ?_) ?_
  · cases e with
    | returned v => exact he.2.elim
    | panicked c => exact ⟨c, rfl, hw4.trans he.1, he.2⟩
    | outgrown => exact he.elim
  rintro c w5 ⟨hw5, ⟨e, hie, rfl⟩, f5⟩
  have s5 := f5.size
  have s4 : w4.heap.size = w3.heap.size := by rw [hh4]
  simp only [bodyPostD]
  rw [ha4.defers]
  have e5 : ∀ k, k < w4.heap.size → k ≠ w.heap.size + 2 → w5.heap[k]? = w3.heap[k]? := fun k hk hk2 => by rw [f5.same k hk hk2, hh4]
  have b4 : w5.heap[w.heap.size]? = some (.cells #[.pointer none] 24 (0, 0)) := (e5 _ (by omega) (by omega)).trans ((al3.old _ (by omega)).trans ((al2.old _ (by omega)).trans al1.at_))
  have b5 : w5.heap[h1.size]? = some (.cells #[.nilIface] 26 (0, 0)) := (e5 _ (by omega) (by omega)).trans ((al3.old _ (by omega)).trans al2.at_)
  have hit : ∃ t u, e = .iface t u := by obtain ⟨a, b, _, _, rfl, _⟩ := hie; exact ⟨_, _, rfl⟩
  refine leaves_cons (f := 29) (args := #[ptr w.heap.size, ptr h1.size]) (by simp) ?_ ?_
  · have h29 : Tryz.prog.funcs[29]? = some Tryz.f29 := Tryz.func29
    have hname : Tryz.f29.name ≠ "runtime.NumGoroutine" := by have : (Tryz.f29.name == "runtime.NumGoroutine") = false := by kernel_rfl
                                                              simpa using this
    simp [invoke, callFunc, h29, hname, body29_eq]
  · refine CallsD.mono (closure_catch (S := S) (g4.fm f5 (by omega) (by omega)) (by omega) b4 b5 (by omega) hit) ?_
    rintro e' u' w7 ⟨rfl, rfl, hs7, k1, k2, k3⟩
    have ha6 : Agrees [{ target := .fn (.func 29) #[ptr w.heap.size, ptr h1.size], args := #[] }] 31 { tmps := (a4.tmps.setIfInBounds 20 (.func (.func 29) #[] #[ptr w.heap.size, ptr h1.size])).setIfInBounds 21 (ptr (w.heap.size + 2)), defers := [{ target := .fn (.func 29) #[ptr w.heap.size, ptr h1.size], args := #[] }] }
        (zipF [4, 5] [ptr w.heap.size, ptr h1.size] []) := by
      refine agrees_of rfl (by simp [ha4.size]) ?_
      intro q hq
      simp only [zipF, List.mem_cons, List.not_mem_nil, or_false] at hq
      rcases hq with rfl | rfl <;>
      · simp only
        rw [Array.getElem?_setIfInBounds_ne (by omega), Array.getElem?_setIfInBounds_ne (by omega)]
        exact ha4.vals _ _ rfl
    have hst : settle (.panicking [{ v := Value.iface 62 (.agg #[e]), recovered := true }]) = .returning := by simp [settle]
    have hr := results11 (w := w7) (u := .pointer none) (v := e) (x := ptr w.heap.size) (y := ptr h1.size) ha6 rfl rfl (load_one Tryz.agg24 ((k2 _ (by omega) (by omega)).trans b4)) (load_one Tryz.agg26 k3)
    simp only [hst, Leaves]
    refine ⟨.tuple #[.pointer none, e], ?_, ⟨hw5.trans hs7, ?_⟩⟩
    · exact hr
    · refine hk _ e ⟨by omega, fun k hk _ => ?_⟩ ((hie.fm fun k hk1 hk2 => k2 k hk1 (by omega)).less (by omega))
      rw [k2 k (by omega) (by omega), e5 k (by omega) (by omega), f3.same k hk (by omega)]

theorem langOf_spec {b : Nat} {x y z u : Value} {ext : Bool} (hb : h[b]? = some (.cells #[x, y, .bool ext, z, u] 57 (0, 0))) (hk : R (.int .i64 ((if ext then 4 else 3 : Nat) : Int)) h) : CallsH Tryz.prog 28 #[ptr b] h R E := by
  refine C28 ?_
  unfold S28
  simp only [boolV_bool, bcase_true, bcase_false, need, reads_nil, Tryz.fa57_2, addr_add, Tryz.agg4]
  rw [pLoad_one (v := .bool ext) Tryz.agg4 (by rw [hcell_of hb]; rfl), boolV_bool]
  cases ext
  · exact hk
  · exact hk

def H11L : Hints := { r := fun _ => none, s := fun _ => none, l := fun _ => none, d := fun _ => none }
def S11L (P : Program) (E : List PanicEntry → Heap → Prop) (t0 t1 t4 t5 t6 : Value) (h : Heap) (k k' : List Value → Heap → Prop) : Prop :=
  Reads P (builtinS .len #[29] 3 #[t0]) h fun t13 =>
  Reads P (binS .gtr 3 true t13 (.int .i64 256)) h fun t14 =>
  boolV t14 fun b1 => bcase b1 (
    CallsH P 27 #[(.int .i64 2)] h (fun t15 h1 =>
    CallsH P 26 #[t15, (.int .i64 0)] h1 (fun t16 h2 =>
    CallsH P 28 #[t6] h2 (fun t18 h3 =>
    CallsH P 25 #[t16, t18] h3 (fun t19 h4 =>
    pStore P 24 t4 (.pointer none) h4 fun h5 =>
    pStore P 26 t5 t19 h5 fun h6 =>
    k' [t4, t5] h6) E) E) E) E) (
    k [t0, t1, t4, t5, t6] h)
theorem V11L {E : List PanicEntry → Heap → Prop} {t0 t1 t4 t5 t6 : Value} {h : Heap} {k k' : List Value → Heap → Prop} : S11L Tryz.prog E t0 t1 t4 t5 t6 h k k' = vc Tryz.prog H11L E c11C (zipF [0, 1, 4, 5, 6] [t0, t1, t4, t5, t6] []) h (looksK [0, 1, 4, 5, 6] [4, 5] k k') := by kernel_rfl

theorem parse_long (gl : Gl S h) (hn : S.N ≤ h.size) (hb : IsBytes h bv l) (hbl : ∀ b o m c, bv = .slice (some ⟨b, o, none⟩) m c → b < h.size) (hlen : 256 < l.length)
    (hk : ∀ h' e, Fm h.size h.size h h' → IsErr S h' h.size (if ext then 4 else 3) 2 0 e → R (.tuple #[.pointer none, e]) h') : CallsH Tryz.prog 11 #[bv, .bool ext] h R E := by
  intro w hw
  subst hw
  refine parse_front w hb fun h1 a3 w3 hw3 ⟨h2, al1, al2, al3⟩ ha3 => ?_
  have s1 := al1.size
  have s2 := al2.size
  have s3 := al3.size
  have f3 : Fm w.heap.size w.heap.size w.heap w3.heap := ((Fm.al al1 (Nat.le_refl _)).trans (Fm.al al2 (by omega))).trans (Fm.al al3 (by omega))
  have e2 : h2.size = w.heap.size + 2 := by omega
  have rd : w3.heap[w.heap.size + 2]? = some (.cells #[bv, .int .i64 0, .bool ext, .int .i64 0, .int .i64 0] 57 (0, 0)) := by rw [← e2]; exact al3.at_
  have b4 : w3.heap[w.heap.size]? = some (.cells #[.pointer none] 24 (0, 0)) := (al3.old _ (by omega)).trans ((al2.old _ (by omega)).trans al1.at_)
  have b5 : w3.heap[h1.size]? = some (.cells #[.nilIface] 26 (0, 0)) := (al3.old _ (by omega)).trans al2.at_
  have by3 : IsBytes w3.heap bv l := hb.frame fun b o c hv => f3.same b (hbl b o _ c hv) (by have := hbl b o _ c hv; omega)
  have g3 := gl.fm f3 hn hn
  refine piece (H := H11L) (E := fun _ _ => False) (D := []) (n := 31) (w₀ := w) (outs := [0, 1, 4, 5, 6]) (rets := [4, 5]) (kn := fun _ _ => False)
    (kr := fun vs h' => vs = [ptr w.heap.size, ptr h1.size] ∧ ∃ e, Fm w.heap.size w.heap.size w.heap h' ∧ IsErr S h' w.heap.size (if ext then 4 else 3) 2 0 e ∧ h'[w.heap.size]? = some (.cells #[.pointer none] 24 (0, 0)) ∧ h'[h1.size]? = some (.cells #[e] 26 (0, 0)))
    Tryz.mixed (by kernel_rfl) ha3 hw3 ?_ (fun _ _ _ _ h _ => h.elim) ?_ (fun _ _ _ _ _ h => h.elim)
  · rw [← V11L]
    unfold S11L
    rw [reads_blen by3 Tryz.underlying29, reads_gt, boolV_bool]
    refine bcase_of (fun _ => ?_) (fun hc => ?_)
    · refine of27_spec (code := 2) g3 (by omega) (by omega) ?_
      obtain ⟨_, x, hx, _⟩ := g3.s (codeAt 2) (by decide) (by decide)
      rw [hx]
      refine at_spec (pos := 0) fun h4 a4 => ?_
      have s4 := a4.size
      refine langOf_spec ((a4.old _ (by omega)).trans rd) ?_
      refine in_spec fun h5 a5 => ?_
      have s5 := a5.size
      refine store1 ((a5.old _ (by omega)).trans ((a4.old _ (by omega)).trans b4)) Tryz.size24 rfl (by simp) fun h6 u6 => ?_
      have s6 := u6.size
      refine store1 ((u6.other _ (by omega)).trans ((a5.old _ (by omega)).trans ((a4.old _ (by omega)).trans b5))) Tryz.size26 rfl (by simp) fun h7 u7 => ?_
      have s7 := u7.size
      refine ⟨rfl, _, ?_, ⟨h4.size, w3.heap.size, by omega, by omega, rfl, ?_, ?_⟩, ?_, by rw [u7.same]; rfl⟩
      · exact (((f3.trans (Fm.al a4 (by omega))).trans (Fm.al a5 (by omega))).trans (Fm.upd u6 (.inl (by omega)))).trans (Fm.upd u7 (.inl (by omega)))
      · exact (u7.other _ (by omega)).trans ((u6.other _ (by omega)).trans a5.at_)
      · rw [hx]
        exact (u7.other _ (by omega)).trans ((u6.other _ (by omega)).trans ((a5.old _ (by omega)).trans a4.at_))
      · rw [u7.other _ (by omega), u6.same]; rfl
    · have := of_decide_eq_false hc
      omega
  rintro vs a6 w6 ha6 hw6 ⟨rfl, e, f6, he6, h4, h5⟩
  simp only [bodyPostD]
  rw [ha6.defers]
  have hr := results11 (w := w6) (u := .pointer none) (v := e) (x := ptr w.heap.size) (y := ptr h1.size) ha6 rfl rfl (load_one Tryz.agg24 h4) (load_one Tryz.agg26 h5)
  simp only [Leaves]
  exact ⟨_, hr, hw6, hk _ e f6 he6⟩
end Rt
end Go.Proofs
