/- A part of the proofs over this seat: Law5. -/
import Derived.Test.YthlncmkeccgfeaaGreatDoorFlt
import Derived.Test.YthlncmkeccgfeaaGreatDoorEith
set_option linter.unusedVariables false
set_option linter.unusedSimpArgs false
set_option maxRecDepth 100000
namespace Go.Proofs
open Go.Vcg
namespace Rt
attribute [local congr] Reads.congr ReadsS.congr pLoad.congr pLoadS.congr pStore.congr Runs.congr CallsH.congr bcase.congr boolV.congr Stable.congr pAlloc.congr
variable {S : Glb} {n : Nat} {h : Heap} {bv av : Value} {l a b : List UInt8} {R : Value → Heap → Prop} {E : List PanicEntry → Heap → Prop}

/-- what Parse has told of an extended text -/
def Outc (S : Glb) (m : Nat) (h : Heap) (l : List UInt8) (x e : Value) : Prop :=
  (∃ b vs t p gr, wholeM (fuel l) l true = .ok (t, p, gr) ∧ gr ≤ 9 ∧ szT t ≤ 768 ∧ x = ptr b ∧ e = .nilIface ∧ h[b]? = some (.cells (vs ++ [.int .i64 gr, .bool true]).toArray 66 (0, 0)) ∧ IsRe h (fun x => m ≤ x ∧ x ≠ b) t vs) ∨
  (∃ code pos, wholeM (fuel l) l true = .bad code pos ∧ 1 ≤ code ∧ code ≤ 10 ∧ pos ≤ l.length ∧ x = .pointer none ∧ IsErr S h m 4 code pos e)
theorem Outc.keep {m : Nat} {h' : Heap} {x e : Value} (o : Outc S m h l x e) (f : ∀ k, k < h.size → h'[k]? = h[k]?) : Outc S m h' l x e := by
  rcases o with ⟨b, vs, t, p, gr, h1, h2, h3, h4, h5, h6, h7⟩ | ⟨code, pos, h1, h2, h3, h4, h5, h6⟩
  · exact .inl ⟨b, vs, t, p, gr, h1, h2, h3, h4, h5, (f b (at_lt h6)).trans h6, h7.frame fun k hk hlt => ⟨hk, f k hlt⟩⟩
  · exact .inr ⟨code, pos, h1, h2, h3, h4, h5, h6.fm fun k hk _ => f k hk⟩
theorem parse_out (gl : Gl S h) (hn : S.N ≤ h.size) (hb : IsBytes h bv l) (hbl : ∀ b o m c, bv = .slice (some ⟨b, o, none⟩) m c → b < h.size) (hl : l.length ≤ 256)
    (hk : ∀ h' x e, Fm h.size h.size h h' → Outc S h.size h' l x e → R (.tuple #[x, e]) h') : CallsH Tryz.prog 11 #[bv, .bool true] h R E :=
  parse_spec gl hn hb hbl (fun h' b vs t p gr _ hm _ _ _ hg hs f _ h66 ht => hk h' _ _ f (.inl ⟨b, vs, t, p, gr, hm, hg, hs, rfl, rfl, h66, ht⟩))
    (fun h' e code pos h1 h2 h3 _ hm _ f he => hk h' _ _ f (.inr ⟨code, pos, hm hl, h1, h2, h3, rfl, he⟩))
theorem ByteRow.lt {v : Value} (r : ByteRow h n v l) : ∀ b o m c, v = .slice (some ⟨b, o, none⟩) m c → b < h.size := by
  intro b o m c e
  obtain ⟨_, ho⟩ := r
  rcases ho with ⟨rfl, _⟩ | ⟨g, cap, cur, rfl, _, e3, _⟩
  · cases e
  · injection e with e; injection e with e; injection e with e
    subst e
    exact at_lt e3
theorem either_spec (gl : Gl S h) (hn : S.N ≤ h.size) (ha : IsBytes h av a) (hal : ∀ b o m c, av = .slice (some ⟨b, o, none⟩) m c → b < h.size) (hb : IsBytes h bv b) (hbl : ∀ b o m c, bv = .slice (some ⟨b, o, none⟩) m c → b < h.size)
    (hk : ∀ h', Fm h.size h.size h h' → R (.bool true) h') : CallsH Tryz.prog 5 #[av, bv] h R E := by
  refine C5 ?_
  unfold S5
  have fin : ∀ {h'}, Fm h.size h.size h h' → CallsH Tryz.prog 10 #[] h' (fun t h'' => R t h'') E := by
    intro h' f
    have := f.size
    exact awake_spec (gl.fm f hn hn) (by omega) fun h'' f'' => hk h'' (f.trans (Fm.lift f'' (by omega) (by omega)))
  have f00 := Fm.refl h.size h.size h
  refine Join0.intro (fun h' => h' = h ∧ a.length ≤ 120 ∧ b.length ≤ 120 ∧ ∀ p, p + 1 = a.length → a[p]? ≠ some 92) ?_ ?_
  · rw [reads_blen ha Tryz.underlying29, reads_gt, boolV_bool]
    refine bcase_of (fun hc => ⟨rfl, rfl, rfl, rfl, rfl, rfl, rfl, fin f00⟩) (fun h1 => ?_)
    have h1 := of_decide_eq_false h1
    rw [reads_blen hb Tryz.underlying29, reads_gt, boolV_bool]
    refine bcase_of (fun hc => ⟨rfl, rfl, rfl, rfl, rfl, rfl, rfl, fin f00⟩) (fun h2 => ?_)
    have h2 := of_decide_eq_false h2
    rw [reads_blen ha Tryz.underlying29, reads_gt, boolV_bool]
    refine bcase_of (fun h3 => ?_) (fun h3 => ?_)
    · have h3 := of_decide_eq_true h3
      rw [reads_blen ha Tryz.underlying29, reads_sub, wrap_s1 _ (by omega) (by omega)]
      refine idx_load ha Tryz.underlying29 Tryz.size5 Tryz.agg5 (show a.length - 1 < a.length from by omega) ?_
      have e8 : decide ((a[a.length - 1].toNat : Int) = 92) = decide (a[a.length - 1] = 92) := dec_u8_eq _ 92
      rw [reads_eq, e8, boolV_bool]
      refine bcase_of (fun _ => fin f00) (fun h4 => ?_)
      have h4 := of_decide_eq_false h4
      refine ⟨rfl, by omega, by omega, fun p hp => ?_⟩
      obtain rfl : p = a.length - 1 := by omega
      rw [List.getElem?_eq_getElem (by omega)]
      exact fun e => h4 (Option.some.inj e)
    · have h3 := of_decide_eq_false h3
      exact ⟨rfl, by omega, by omega, fun p hp => by omega⟩
  rintro h0 ⟨rfl, hla, hlb, hlast⟩
  refine parse_out gl hn ha hal (by omega) fun h5 x1 e1 f5 o1 => ?_
  have s5 := f5.size
  rw [reads_ext0, reads_ext1]
  have g5 := gl.fm f5 hn hn
  have hb5 := hb.frame fun b o k hv => f5.same b (hbl b o _ k hv) (by have := hbl b o _ k hv; omega)
  have ha5 := ha.frame fun b o k hv => f5.same b (hal b o _ k hv) (by have := hal b o _ k hv; omega)
  refine parse_out g5 (by omega) hb5 (fun b o m c e => by have := hbl b o m c e; omega) (by omega) fun h6 x2 e2 f6 o2 => ?_
  have s6 := f6.size
  rw [reads_ext0, reads_ext1]
  have k56 : ∀ k, k < h5.size → h6[k]? = h5[k]? := fun k hk => f6.same k hk (by omega)
  have o1 := o1.keep k56
  have f06 : Fm h0.size h0.size h0 h6 := f5.trans (Fm.lift f6 (by omega) (by omega))
  have hb6 := hb.frame fun b o k hv => f06.same b (hbl b o _ k hv) (by have := hbl b o _ k hv; omega)
  have ha6 := ha.frame fun b o k hv => f06.same b (hal b o _ k hv) (by have := hal b o _ k hv; omega)
  refine runs_empty fun v0 h7 r7 a7 => ?_
  have s7 := a7.size
  have f67 : Fm h6.size h6.size h6 h7 := Fm.al a7 (Nat.le_refl _)
  have by_ : ∀ {v : Value} {m : List UInt8} {h' : Heap}, IsBytes h6 v m → (∀ b o k c, v = .slice (some ⟨b, o, none⟩) k c → b < h6.size) → Fm h6.size h6.size h6 h' → IsBytes h' v m := fun hv hl f => hv.frame fun b o k e => f.same b (hl b o _ k e) (by have := hl b o _ k e; omega)
  have hal6 : ∀ b o m c, av = .slice (some ⟨b, o, none⟩) m c → b < h6.size := fun b o m c e => by have := hal b o m c e; omega
  have hbl6 : ∀ b o m c, bv = .slice (some ⟨b, o, none⟩) m c → b < h6.size := fun b o m c e => by have := hbl b o m c e; omega
  refine push_bytes r7 (by_ ha6 hal6 f67) (by omega) (by simp; omega) fun v1 h8 r8 q8 => ?_
  have f68 := f67.trans (q8 h6.size)
  have s8 := f68.size
  refine push_byte (c := 124) r8 s8 (by simp; omega) fun v2 h10 r10 q10 => ?_
  have f610 := f68.trans (q10 h6.size)
  have s10 := f610.size
  refine push_bytes r10 (by_ hb6 hbl6 f610) s10 (by simp; omega) fun v3 h11 r11 q11 => ?_
  have f611 := f610.trans (q11 h6.size)
  have s11 := f611.size
  have eM : [] ++ a ++ [124] ++ b = a ++ 124 :: b := by simp
  rw [eM] at r11
  have f011 : Fm h0.size h0.size h0 h11 := f06.trans (Fm.lift f611 (by omega) (by omega))
  refine parse_out (gl.fm f011 hn hn) (by omega) r11.is r11.lt (by rw [bar_len]; omega) fun h12 x3 e3 f12 o3 => ?_
  have s12 := f12.size
  rw [reads_ext0, reads_ext1]
  have f012 : Fm h0.size h0.size h0 h12 := f011.trans (Fm.lift f12 (by omega) (by omega))
  have k612 : ∀ k, k < h6.size → h12[k]? = h6[k]? := fun k hk => (f12.same k (by omega) (by omega)).trans (f611.same k hk (by omega))
  have o1 := o1.keep k612
  have o2 := o2.keep k612
  have later : ∀ {h'}, Fm h12.size h12.size h12 h' → Fm h0.size h0.size h0 h' ∧ Gl S h' ∧ S.N ≤ h'.size ∧ IsBytes h' av a ∧ IsBytes h' bv b ∧ ∀ k, k < h12.size → h'[k]? = h12[k]? := by
    intro h' f
    have sf := f.size
    have f' := f012.trans (Fm.lift (n := h0.size) (r := h0.size) f (by omega) (by omega))
    exact ⟨f', gl.fm f' hn hn, by omega, ha.frame fun b o k hv => f'.same b (hal b o _ k hv) (by have := hal b o _ k hv; omega), hb.frame fun b o k hv => f'.same b (hbl b o _ k hv) (by have := hbl b o _ k hv; omega), fun k hk => f.same k hk (by omega)⟩
  have r12 := Fm.refl h12.size h12.size h12
  rcases o1 with ⟨b1, vs1, t1, p1, g1, m1, hg1, hs1, rfl, rfl, h66a, ht1⟩ | ⟨c1, q1, m1, hc1, hc1', hq1, rfl, he1⟩
  rotate_left
  · -- the front is wrong
    obtain ⟨ta, va, rfl⟩ := he1.ifc
    have hfr := either_front (b := b) hlast m1
    rw [Tryz.neq26_s, boolV_bool, bcase_true]
    obtain ⟨_, gl12, hn12, _⟩ := later r12
    refine tell_spec gl12 hn12 he1 hc1 (by omega) fun h13 f13 => ?_
    obtain ⟨f013, gl13, hn13, ha13, _, k13⟩ := later f13
    have s13 := f13.size
    have cmp : wholeM (fuel (a ++ 124 :: b)) (a ++ 124 :: b) true = .bad c1 q1 → CallsH Tryz.prog 17 #[e3] h13 (fun t73 h14 => CallsH Tryz.prog 17 #[.iface ta va] h14 (fun t75 h15 => Reads Tryz.prog (binS .eql 42 false t73 t75) h15 fun t76 => boolV t76 fun b9 => bcase b9 (CallsH Tryz.prog 10 #[] h15 (fun t78 h16 => R t78 h16) E) (R (.bool false) h15)) E) E := by
      intro mM
      rcases o3 with ⟨b3, vs3, t3, p3, g3, m3, _⟩ | ⟨c3, q3, m3, hc3, hc3', _, rfl, he3⟩
      · rw [mM] at m3; cases m3
      rw [mM] at m3
      cases m3
      refine tell_spec gl13 hn13 (he3.fm fun k hk _ => k13 k hk) hc1 (by omega) fun h14 f14 => ?_
      have s14 := f14.size
      have f124 : Fm h12.size h12.size h12 h14 := f13.trans (Fm.lift f14 (by omega) (by omega))
      obtain ⟨f014, gl14, hn14, _, _, k14⟩ := later f124
      refine tell_spec gl14 hn14 (he1.fm fun k hk _ => k14 k hk) hc1 (by omega) fun h15 f15 => ?_
      have s15 := f15.size
      obtain ⟨f015, _⟩ := later (f124.trans (Fm.lift f15 (by omega) (by omega)))
      rw [faultV, reads_eqFault, boolV_bool, bcase_true]
      exact fin f015
    rw [faultV, fld42_1, reads_blen ha13 Tryz.underlying29, reads_eq, dec_nn_eq, boolV_bool]
    refine bcase_of (fun hc => ?_) (fun hc => ?_)
    · have hc := of_decide_eq_true hc
      rw [reads_blen ha13 Tryz.underlying29, reads_gt, boolV_bool]
      refine bcase_of (fun _ => ⟨rfl, hk h13 f013⟩) (fun hz => ?_)
      have hz := of_decide_eq_false hz
      rcases hfr with ⟨_, hne⟩ | hM
      · exact absurd (List.length_eq_zero_iff.1 (by omega)) hne
      · exact cmp hM
    · have hc := of_decide_eq_false hc
      rcases hfr with ⟨e, _⟩ | hM
      · exact absurd e hc
      · exact cmp hM
  -- the front is right
  rw [Tryz.neq26_n, boolV_bool, bcase_false]
  refine groups_spec ht1.len h66a ?_
  obtain ⟨_, gl12, hn12, ha12, hb12, _⟩ := later r12
  refine groups_of hb12 (by omega) ?_
  have hcb : b.count 40 ≤ b.length := List.count_le_length
  rw [reads_add, wrap_nn _ _ (by omega), reads_gt, boolV_bool]
  refine bcase_of (fun _ => fin f012) (fun hsum => ?_)
  have hsum := of_decide_eq_false hsum
  have hbk := either_back (b := b) hlast m1 (by omega)
  rcases o2 with ⟨b2, vs2, t2, p2, g2, m2, hg2, hs2, rfl, rfl, h66b, ht2⟩ | ⟨c2, q2, m2, hc2, hc2', hq2, rfl, he2⟩
  rotate_left
  · -- the back is wrong
    rw [m2] at hbk
    simp only at hbk
    obtain ⟨ta, va, rfl⟩ := he2.ifc
    rw [Tryz.neq26_s, boolV_bool, bcase_true]
    rcases o3 with ⟨b3, vs3, t3, p3, g3, m3, _⟩ | ⟨c3, q3, m3, hc3, hc3', _, rfl, he3⟩
    · rw [hbk] at m3; cases m3
    rw [hbk] at m3
    cases m3
    refine tell_spec gl12 hn12 he2 hc2 (by omega) fun h23 f23 => ?_
    have s23 := f23.size
    obtain ⟨_, gl23, hn23, _, _, k23⟩ := later f23
    refine tell_spec gl23 hn23 (he3.fm fun k hk _ => k23 k hk) hc2 (by omega) fun h24 f24 => ?_
    have s24 := f24.size
    refine alloc_rule Tryz.zero42 fun h25 a25 => alloc_rule Tryz.zero42 fun h26 a26 => ?_
    have s25 := a25.size
    have s26 := a26.size
    refine storeFull ((a26.old _ (by omega)).trans a25.at_) (xs := #[.int .i64 c2, .int .i64 q2, .int .i64 (4 : Nat)]) Tryz.size42 rfl flat3 fun h27 u27 => ?_
    have s27 := u27.size
    refine storeFull ((u27.other _ (by omega)).trans a26.at_) (xs := #[.int .i64 c2, .int .i64 (a.length + 1 + q2 : Nat), .int .i64 (4 : Nat)]) Tryz.size42 rfl flat3 fun h28 u28 => ?_
    have s28 := u28.size
    have b1 := (u28.other h24.size (by omega)).trans u27.same
    have b2 := u28.same
    have f28 : Fm h12.size h12.size h12 h28 := f23.trans (Fm.lift (n := h12.size) (r := h12.size) (f24.trans ((Fm.al a25 (by omega)).trans ((Fm.al a26 (by omega)).trans ((Fm.upd u27 (.inl (by omega))).trans (Fm.upd u28 (.inl (by omega))))))) (by omega) (by omega))
    obtain ⟨f028, _, _, ha28, _⟩ := later f28
    rw [Tryz.fa42_0, addr_add, pLoad_one (v := .int .i64 c2) Tryz.agg3 (by rw [hcell_of b1]; rfl), Tryz.fa42_0, addr_add, pLoad_one (v := .int .i64 c2) Tryz.agg3 (by rw [hcell_of b2]; rfl), reads_eq, boolV_bool]
    refine bcase_of (fun _ => ?_) (fun hc => by simp at hc)
    rw [Tryz.fa42_1, addr_add, Nat.zero_add, pLoad_one (v := .int .i64 (a.length + 1 + q2 : Nat)) Tryz.agg3 (by rw [hcell_of b2]; rfl), Tryz.fa42_1, addr_add, Nat.zero_add, pLoad_one (v := .int .i64 q2) Tryz.agg3 (by rw [hcell_of b1]; rfl),
      reads_blen ha28 Tryz.underlying29, reads_add, wrap_nn _ _ (by omega), reads_add, wrap_n1 _ (by omega), reads_eq, dec_nn_eq, boolV_bool]
    refine bcase_of (fun _ => fin f028) (fun hc => ?_)
    have := of_decide_eq_false hc
    omega
  -- both are right
  rw [m2] at hbk
  simp only at hbk
  obtain ⟨us, pM, mM, hus⟩ := hbk
  rw [Tryz.neq26_n, boolV_bool, bcase_false]
  rcases o3 with ⟨b3, vs3, t3, p3, g3, m3, hg3, hs3, rfl, rfl, h66c, ht3⟩ | ⟨c3, q3, m3, _⟩
  rotate_left
  · rw [mM] at m3; cases m3
  rw [mM] at m3
  cases m3
  refine Join0.intro (fun h' => h' = h12) ?_ ?_
  · rw [Tryz.neq26_n, boolV_bool, bcase_false]
    refine groups_spec ht3.len h66c ?_
    refine groups_spec ht1.len h66a ?_
    refine groups_spec ht2.len h66b ?_
    rw [reads_add, wrap_nn _ _ (by omega), reads_ne, boolV_bool]
    exact bcase_of (fun hc => by simp at hc) (fun _ => rfl)
  rintro h33 rfl
  refine tree_spec h66c ht3 (by omega) fun h34 ws f34 ht34 => ?_
  have s34 := f34.size
  obtain ⟨q, cc, rfl, _⟩ := kidsOf ht34
  refine alloc_rule Tryz.zero36 fun h35 a35 => ?_
  have s35 := a35.size
  refine storeFull a35.at_ (xs := (reL 5 .zero 0 0 0 (.slice q us.length cc)).toArray) Tryz.size36 rfl (flat_reL rfl) fun h36 u36 => ?_
  have s36 := u36.size
  have b36 := u36.same
  have f36 : Fm h33.size h33.size h33 h36 := f34.trans (Fm.lift (n := h33.size) (r := h33.size) ((Fm.al a35 (Nat.le_refl _)).trans (Fm.upd u36 (.inl (Nat.le_refl _)))) (by omega) (by omega))
  obtain ⟨_, _, _, _, _, k36⟩ := later f36
  rw [Tryz.fa36_0, addr_add, pLoad_one (v := .int .i64 5) Tryz.agg3 (by rw [hcell_of b36]; rfl), reads_eq]
  refine ⟨fun h' => h'[h34.size]? = some (.cells (reL 5 .zero 0 0 0 (.slice q us.length cc)).toArray 36 (0, 0)), b36, ?_⟩
  simp only []
  rw [boolV_bool]
  refine bcase_of (fun _ => ?_) (fun hc => by simp at hc)
  refine readsS_lift (fun h k => Tryz.fa36_5) ?_
  rw [addr_add, Nat.zero_add]
  refine pLoadS_one Tryz.agg34 (v := .slice q us.length cc) (fun h' hh => by rw [hcell_of hh]; rfl) ?_
  refine readsS_lift (fun h k => reads_rlen Tryz.underlying34) ?_
  refine ⟨?_, trivial⟩
  refine tree_spec ((k36 _ (at_lt h66a)).trans h66a) (ht1.frame fun k hk hlt => ⟨hk, k36 k hlt⟩) (by omega) fun h37 ws1 f37 ht37 => ?_
  have s37 := f37.size
  obtain ⟨k1, w1, mn1, mx1, gg1, us1⟩ := t1
  obtain ⟨qq1, cc1, rfl, _⟩ := kidsOf ht37
  have b37 := (f37.same h34.size (by omega) (by omega)).trans b36
  refine ⟨b37, branches_of fun h38 f38 => ?_, trivial⟩
  have s38 := f38.size
  have b38 := (f38.same h34.size (by omega) (by omega)).trans b37
  have f338 : Fm h33.size h33.size h33 h38 := f36.trans (Fm.lift (n := h33.size) (r := h33.size) (f37.trans (Fm.lift (n := h36.size) (r := h36.size) f38 (by omega) (by omega))) (by omega) (by omega))
  obtain ⟨_, _, _, _, _, k38⟩ := later f338
  refine ⟨b38, ?_, trivial⟩
  refine tree_spec ((k38 _ (at_lt h66b)).trans h66b) (ht2.frame fun k hk hlt => ⟨hk, k38 k hlt⟩) (by omega) fun h39 ws2 f39 ht39 => ?_
  have s39 := f39.size
  obtain ⟨k2, w2, mn2, mx2, gg2, us2⟩ := t2
  obtain ⟨qq2, cc2, rfl, _⟩ := kidsOf ht39
  have b39 := (f39.same h34.size (by omega) (by omega)).trans b38
  refine ⟨b39, branches_of fun h40 f40 => ?_, trivial⟩
  have s40 := f40.size
  have b40 := (f40.same h34.size (by omega) (by omega)).trans b39
  refine ⟨b40, ?_⟩
  have hB1 : branchN (.node k1 w1 mn1 mx1 gg1 us1) = if k1 = 5 then us1.length else 1 := rfl
  have hB2 : branchN (.node k2 w2 mn2 mx2 gg2 us2) = if k2 = 5 then us2.length else 1 := rfl
  rw [hB1, hB2] at hus
  have hz1 : us1.length ≤ szL us1 := szL_len us1
  have hz2 : us2.length ≤ szL us2 := szL_len us2
  simp only [szT] at hs1 hs2
  have hw : (if k1 = 5 then us1.length else 1) + (if k2 = 5 then us2.length else 1) ≤ 4611686018427387904 := by split <;> split <;> omega
  refine readsS_lift (v := .int .i64 ((if k1 = 5 then us1.length else 1) + (if k2 = 5 then us2.length else 1) : Nat)) (fun h k => by rw [reads_add, wrap_nn _ _ hw]) ?_
  rw [← hus, reads_eq, boolV_bool]
  refine ⟨bcase_of (fun _ => ?_) (fun hc => by simp at hc), trivial⟩
  obtain ⟨f040, _⟩ := later (f338.trans (Fm.lift (n := h33.size) (r := h33.size) (f39.trans (Fm.lift (n := h38.size) (r := h38.size) f40 (by omega) (by omega))) (by omega) (by omega)))
  exact (fin f040).mono (fun v h' hh => ⟨trivial, hh⟩) fun _ _ hh => hh
end Rt
end Go.Proofs
