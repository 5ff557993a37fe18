/- A part of the proofs over this seat: RefN. -/
import Derived.Test.YthlncmkeccgfeaaGreatDoorRefL
import Derived.Test.YthlncmkeccgfeaaGreatDoorRef1
set_option linter.unusedVariables false
set_option linter.unusedSimpArgs false
set_option maxRecDepth 100000
namespace Go.Proofs
open Go.Vcg
namespace Rt
attribute [local congr] Reads.congr ReadsS.congr pLoad.congr pLoadS.congr pStore.congr Runs.congr CallsH.congr bcase.congr boolV.congr Stable.congr pAlloc.congr
variable {n : Nat} {h : Heap} {r : Nat} {bv : Value} {l : List UInt8} {p : Nat} {ext : Bool} {gr code pos lang : Nat} {R : Value → Heap → Prop} {E : List PanicEntry → Heap → Prop}

/-! ### An atom, as the reference reads it -/
def atomR (ext : Bool) (l : List UInt8) (p gr : Nat) (m : Res (T × Nat × Nat)) : Res (T × Nat × Nat) :=
  match l[p]? with
  | none => .out
  | some c => if c = 46 then .ok (.node 1 anyW 0 0 0 [], p + 1, gr) else if c = 91 then (brkM ext l (p + 1)).with gr else if isM l (signM ext 40) p = true then groupR ext l p gr m
    else if (isM l (signM ext 123) p || ((!ext && isM l [92, 125] p) || (ext && ([42, 43, 63] : List UInt8).contains c))) = true then .bad 3 p else if c = 92 then (escM l (signsOf ext) p).with gr else .ok (single c, p + 1, gr)
theorem ratom_spec {m : Res (T × Nat × Nat)} (c : Kx n h r bv l p ext gr 0 0 0) (hp : p < l.length)
    (hcode : ∀ e w, m = .bad e w → e ≠ 0) (hend : ∀ t q g, m = .ok (t, q, g) → l.length ≤ q ∨ isM l (signM ext 41) q = true)
    (hread : gr ≠ 9 → ∀ {n : Nat} {h : Heap} {R : Value → Heap → Prop}, Kx n h r bv l (p + (signM ext 40).length) ext (gr + 1) 0 0 0 → OwesK n h r bv l ext m R → CallsH Tryz.prog (if ext then 38 else 39) #[ptr r] h R E)
    (hk : OwesK n h r bv l ext (atomR ext l p gr m) R) : CallsH Tryz.prog 63 #[ptr r] h R E := by
  have hr := c.rlt
  have hl := c.len
  have hn := c.nle
  refine C63 ?_
  unfold S63
  refine alloc_rule Tryz.zero36 fun h1 a1 => ?_
  have s1 := a1.size
  have c1 := c.al a1
  have f1 : Fm h.size r h h1 := Fm.al a1 (Nat.le_refl _)
  unfold atomR at hk
  rw [List.getElem?_eq_getElem hp] at hk
  simp only at hk
  -- what a call gives is given back
  have back : ∀ {m' : Res (T × Nat × Nat)} {h' : Heap}, OwesK n h r bv l ext m' R → Fm h1.size r h1 h' →
      OwesK n h' r bv l ext m' (fun v h'' => pStore Tryz.prog 36 (.pointer (some ⟨h.size, 0, none⟩)) v h'' fun h3 => pLoad Tryz.prog 36 (.pointer (some ⟨h.size, 0, none⟩)) h3 fun r2 => R r2 h3) := by
    intro m' h' hk f
    have sf := f.size
    cases m' with
    | out => exact hk
    | bad a b =>
      intro h2 vs t p' gr' f2 c2 ht
      have s2 := f2.size
      refine ret_re (Q := fun b => h'.size ≤ b) ((f2.same _ (by omega) (by omega)).trans ((f.same _ (by omega) (by omega)).trans a1.at_)) rfl (fun x hx => by omega) ht fun h3 u3 ht3 => ?_
      exact hk h3 vs t p' gr' (f1.trans ((f.less (by omega)).trans ((f2.less (by omega)).trans (Fm.upd u3 (.inl (Nat.le_refl _)))))) (c2.upd u3 (by omega) (by omega)) (ht3.frame fun b hb _ => ⟨by omega, rfl⟩)
    | ok x =>
      intro h2 vs f2 c2 ht
      have s2 := f2.size
      refine ret_re (Q := fun b => h'.size ≤ b) ((f2.same _ (by omega) (by omega)).trans ((f.same _ (by omega) (by omega)).trans a1.at_)) rfl (fun x hx => by omega) ht fun h3 u3 ht3 => ?_
      exact hk h3 vs (f1.trans ((f.less (by omega)).trans ((f2.less (by omega)).trans (Fm.upd u3 (.inl (Nat.le_refl _)))))) (c2.upd u3 (by omega) (by omega)) (ht3.frame fun b hb _ => ⟨by omega, rfl⟩)
  rw [reads_nil, Tryz.fa71_0, addr_add, c1.ld0, reads_nil, Tryz.fa71_1, addr_add, Nat.zero_add, c1.ld1]
  refine idx_load c1.by_ Tryz.underlying29 Tryz.size5 Tryz.agg5 hp ?_
  rw [reads_eq, show decide ((l[p].toNat : Int) = 46) = decide (l[p] = 46) from dec_u8_eq _ 46, boolV_bool]
  refine bcase_of (fun h46 => ?_) (fun h46 => ?_)
  · rw [if_pos (of_decide_eq_true h46)] at hk
    rw [reads_nil, Tryz.fa71_1, addr_add, Nat.zero_add, c1.ld1, reads_add, wrap_n1 _ (by omega), reads_nil, Tryz.fa71_1, addr_add, Nat.zero_add]
    refine c1.goto (by omega) fun h2 f2 s2 o2 c2 => ?_
    refine rany_spec fun h3 f3 => ?_
    have s3 := f3.size
    have f3' : Fm h2.size r h2 h3 := ⟨s3, fun k k1 _ => f3.same k k1 (by omega)⟩
    exact back (m' := .ok (.node 1 anyW 0 0 0 [], p + 1, gr)) hk f2 h3 _ f3' (c2.still (f3'.less c2.nle) (f3.same r (by omega) (by omega))) IsRe.leaf
  rw [if_neg (of_decide_eq_false h46)] at hk
  rw [reads_eq, show decide ((l[p].toNat : Int) = 91) = decide (l[p] = 91) from dec_u8_eq _ 91, boolV_bool]
  refine bcase_of (fun h91 => ?_) (fun h91 => ?_)
  · rw [if_pos (of_decide_eq_true h91)] at hk
    have kx1 := c1
    have fm1 : Fm h1.size r h1 h1 := Fm.refl ..
    have lift : ∀ {a b : Heap} {m : Nat}, Fm a.size a.size a b → m ≤ a.size → Fm m r a b := fun f hm => ⟨f.size, fun k k1 k2 => f.same k (by omega) (by omega)⟩
    have zr : h1[h.size]? = some (.cells (Value.agg (reL 0 .zero 0 0 0 (.slice none 0 0)).toArray).cells 36 (0, 0)) := a1.at_
    refine ⟨fun h' => RdrR h' r bv p ext gr 0 0 0, c1.rd, ?_⟩
    refine readsS_lift (fun h k => reads_nil) ?_
    refine readsS_lift (fun h k => Tryz.fa71_0) ?_
    rw [addr_add]
    refine pLoadS_one Tryz.agg29 (v := bv) (fun h' hh => by rw [hcell_of hh]; rfl) ?_
    refine readsS_lift (fun h k => reads_nil) ?_
    refine readsS_lift (fun h k => Tryz.fa71_1) ?_
    rw [addr_add, Nat.zero_add]
    refine pLoadS_one Tryz.agg3 (v := .int .i64 p) (fun h' hh => by rw [hcell_of hh]; rfl) ?_
    refine readsS_lift (v := .int .i64 (p + 1 : Nat)) (fun h k => by rw [reads_add, wrap_n1 _ (by omega)]) ?_
    obtain ⟨T44, T45, T46, call64, fin⟩ : ∃ T44 T45 T46 : Value, (∀ {h' : Heap} {K : Value → Heap → Prop}, Kx n h' r bv l p ext gr 0 0 0 → (∀ h'', Fm h'.size h'.size h' h'' → K (.tuple #[T44, T45, T46]) h'') → CallsH Tryz.prog 64 #[bv, .int .i64 (p + 1 : Nat), .int .i64 (langN ext : Nat)] h' K E) ∧
        (∀ {h' : Heap} {b4 b6 : Nat}, Fm h1.size r h1 h' → Kx n h' r bv l p ext gr 0 0 0 → h1.size ≤ b4 → h1.size ≤ b6 → b4 ≠ b6 → h'[b4]? = some (.cells (Value.agg #[.int .u64 0, .int .u64 0, .int .u64 0, .int .u64 0]).cells 33 (0, 0)) → h'[b6]? = some (.cells (Value.agg #[.int .i64 0, .int .i64 0, .int .i64 0]).cells 42 (0, 0)) →
          (pStore Tryz.prog 33 (.pointer (some ⟨b4, 0, none⟩)) T44 h' fun h9 => RdrR h9 r bv p ext gr 0 0 0 ∧ ((pStore Tryz.prog 42 (.pointer (some ⟨b6, 0, none⟩)) T46 h9 fun h10 => True ∧ tail63 (ptr r) (.pointer (some ⟨h.size, 0, none⟩)) (.pointer (some ⟨b4, 0, none⟩)) (.pointer (some ⟨b6, 0, none⟩)) T45 R E h10) ∧ True))) := by
      have hb64 := bracketS_end (lang := langN ext) (l := l) (p := p + 1) (by omega)
      have hbl : ∀ {h' : Heap}, Kx n h' r bv l p ext gr 0 0 0 → ∀ b o m c, bv = .slice (some ⟨b, o, none⟩) m c → b < h'.size := fun k b o m c e => by have := (k.ne b o m c e).2; have := k.nle; omega
      have hlang : langN ext = 3 ∨ langN ext = 4 := by cases ext <;> simp [langN]
      unfold brkM at hk
      cases hm : bracketS (langN ext) l (p + 1) with
      | out => rw [hm] at hb64; exact hb64.elim
      | bad e w =>
        rw [hm] at hk hb64
        simp only at hb64
        refine ⟨.agg W4.zero.vals.toArray, .int .i64 0, faultV e w (langN ext), fun {h' K} k hK => rbracket_spec k.by_ (hbl k) (by omega) (by omega) hlang (by rw [hm]; exact hK), ?_⟩
        intro h' b4 b6 f' k' g4 g6 g46 e4 e6
        have sf := f'.size
        refine putSet (s := W4.zero) e4 rfl fun h9 u9 => ⟨(u9.other r (by omega)).trans k'.rd, ?_, trivial⟩
        have s9 := u9.size
        have k9 := k'.upd u9 (by omega) (by omega)
        refine storeFull ((u9.other _ (by omega)).trans e6) (xs := #[.int .i64 e, .int .i64 w, .int .i64 (langN ext : Nat)]) Tryz.size42 rfl flat3 fun h10 u10 => ⟨trivial, ?_⟩
        have s10 := u10.size
        have k10 := k9.upd u10 (by omega) (by omega)
        refine tail63_bad k10 (by omega) ((u10.other _ (by omega)).trans ((u9.other _ (by omega)).trans ((f'.same _ (by omega) (by omega)).trans zr))) rfl u10.same (by omega) (by omega) fun h11 vs t f11 k11 ht => ?_
        exact hk h11 vs t _ _ (f1.trans ((f'.less (by omega)).trans ((Fm.upd u9 (.inl (by omega))).trans ((Fm.upd u10 (.inl (by omega))).trans f11)))) k11 (ht.frame fun b hb _ => ⟨by omega, rfl⟩)
      | ok y =>
        rw [hm] at hk hb64
        simp only at hb64
        refine ⟨.agg y.1.vals.toArray, .int .i64 y.2, faultV 0 0 0, fun {h' K} k hK => rbracket_spec k.by_ (hbl k) (by omega) (by omega) hlang (by rw [hm]; exact hK), ?_⟩
        intro h' b4 b6 f' k' g4 g6 g46 e4 e6
        have sf := f'.size
        refine putSet (s := y.1) e4 rfl fun h9 u9 => ⟨(u9.other r (by omega)).trans k'.rd, ?_, trivial⟩
        have s9 := u9.size
        have k9 := k'.upd u9 (by omega) (by omega)
        refine storeFull ((u9.other _ (by omega)).trans e6) (xs := #[.int .i64 (0 : Nat), .int .i64 (0 : Nat), .int .i64 (0 : Nat)]) Tryz.size42 rfl flat3 fun h10 u10 => ⟨trivial, ?_⟩
        have s10 := u10.size
        have k10 := k9.upd u10 (by omega) (by omega)
        refine tail63_ok (s := y.1) k10 hb64.2.2 ((u10.other _ (by omega)).trans ((u9.other _ (by omega)).trans ((f'.same _ (by omega) (by omega)).trans zr))) rfl ((u10.other _ (by omega)).trans u9.same) u10.same (by omega) (by omega) (by omega) fun h11 f11 k11 => ?_
        exact hk h11 _ (f1.trans ((f'.less (by omega)).trans ((Fm.upd u9 (.inl (by omega))).trans ((Fm.upd u10 (.inl (by omega))).trans f11)))) k11 IsRe.leaf
    refine ⟨?_, ?_, ?_, trivial⟩
    · refine rlang_spec kx1 ⟨kx1.rd, ?_⟩
      refine ⟨?_, ?_, ?_, trivial⟩
      · refine call64 kx1 fun x2 g2 => ⟨?_, ?_⟩
        · exact ((g2.same r kx1.rlt (by have := kx1.rlt; omega)).trans kx1.rd)
        have z2 := g2.size
        have fm2 := fm1.trans (lift g2 fm1.size)
        have kx2 := kx1.still (lift g2 kx1.nle) (g2.same r kx1.rlt (by have := kx1.rlt; omega))
        refine readsS_lift (fun h k => reads_ext0) (readsS_lift (fun h k => reads_ext1) (readsS_lift (fun h k => reads_ext2) ?_))
        refine ⟨?_, ?_, trivial⟩
        · refine alloc_rule Tryz.zero33 fun x3 a3 => ⟨?_, ?_⟩
          · exact (a3.old r kx2.rlt).trans kx2.rd
          have z3 := a3.size
          have fm3 := fm2.trans (Fm.al a3 fm2.size)
          have kx3 := kx2.al a3
          refine ⟨?_, trivial⟩
          · refine alloc_rule Tryz.zero42 fun x4 a4 => ⟨?_, ?_⟩
            · exact (a4.old r kx3.rlt).trans kx3.rd
            have z4 := a4.size
            have fm4 := fm3.trans (Fm.al a4 fm3.size)
            have kx4 := kx3.al a4
            exact ⟨fin fm4 kx4 (by omega) (by omega) (by omega) ((a4.old _ (by omega)).trans a3.at_) a4.at_, trivial⟩
        · refine alloc_rule Tryz.zero42 fun x5 a5 => ⟨?_, ?_⟩
          · exact (a5.old r kx2.rlt).trans kx2.rd
          have z5 := a5.size
          have fm5 := fm2.trans (Fm.al a5 fm2.size)
          have kx5 := kx2.al a5
          refine ⟨?_, trivial⟩
          · refine alloc_rule Tryz.zero33 fun x6 a6 => ⟨?_, ?_⟩
            · exact (a6.old r kx5.rlt).trans kx5.rd
            have z6 := a6.size
            have fm6 := fm5.trans (Fm.al a6 fm5.size)
            have kx6 := kx5.al a6
            exact ⟨fin fm6 kx6 (by omega) (by omega) (by omega) a6.at_ ((a6.old _ (by omega)).trans a5.at_), trivial⟩
      · refine alloc_rule Tryz.zero33 fun x7 a7 => ⟨?_, ?_⟩
        · exact (a7.old r kx1.rlt).trans kx1.rd
        have z7 := a7.size
        have fm7 := fm1.trans (Fm.al a7 fm1.size)
        have kx7 := kx1.al a7
        refine ⟨?_, ?_, trivial⟩
        · refine call64 kx7 fun x8 g8 => ⟨?_, ?_⟩
          · exact ((g8.same r kx7.rlt (by have := kx7.rlt; omega)).trans kx7.rd)
          have z8 := g8.size
          have fm8 := fm7.trans (lift g8 fm7.size)
          have kx8 := kx7.still (lift g8 kx7.nle) (g8.same r kx7.rlt (by have := kx7.rlt; omega))
          refine readsS_lift (fun h k => reads_ext0) (readsS_lift (fun h k => reads_ext1) (readsS_lift (fun h k => reads_ext2) ?_))
          refine ⟨?_, trivial⟩
          · refine alloc_rule Tryz.zero42 fun x9 a9 => ⟨?_, ?_⟩
            · exact (a9.old r kx8.rlt).trans kx8.rd
            have z9 := a9.size
            have fm9 := fm8.trans (Fm.al a9 fm8.size)
            have kx9 := kx8.al a9
            exact ⟨fin fm9 kx9 (by omega) (by omega) (by omega) ((a9.old _ (by omega)).trans ((g8.same _ (by omega) (by omega)).trans a7.at_)) a9.at_, trivial⟩
        · refine alloc_rule Tryz.zero42 fun x10 a10 => ⟨?_, ?_⟩
          · exact (a10.old r kx7.rlt).trans kx7.rd
          have z10 := a10.size
          have fm10 := fm7.trans (Fm.al a10 fm7.size)
          have kx10 := kx7.al a10
          refine ⟨?_, trivial⟩
          · refine call64 kx10 fun x11 g11 => ⟨?_, ?_⟩
            · exact ((g11.same r kx10.rlt (by have := kx10.rlt; omega)).trans kx10.rd)
            have z11 := g11.size
            have fm11 := fm10.trans (lift g11 fm10.size)
            have kx11 := kx10.still (lift g11 kx10.nle) (g11.same r kx10.rlt (by have := kx10.rlt; omega))
            refine readsS_lift (fun h k => reads_ext0) (readsS_lift (fun h k => reads_ext1) (readsS_lift (fun h k => reads_ext2) ?_))
            exact ⟨fin fm11 kx11 (by omega) (by omega) (by omega) ((g11.same _ (by omega) (by omega)).trans ((a10.old _ (by omega)).trans a7.at_)) ((g11.same _ (by omega) (by omega)).trans a10.at_), trivial⟩
      · refine alloc_rule Tryz.zero42 fun x12 a12 => ⟨?_, ?_⟩
        · exact (a12.old r kx1.rlt).trans kx1.rd
        have z12 := a12.size
        have fm12 := fm1.trans (Fm.al a12 fm1.size)
        have kx12 := kx1.al a12
        refine ⟨?_, ?_, trivial⟩
        · refine call64 kx12 fun x13 g13 => ⟨?_, ?_⟩
          · exact ((g13.same r kx12.rlt (by have := kx12.rlt; omega)).trans kx12.rd)
          have z13 := g13.size
          have fm13 := fm12.trans (lift g13 fm12.size)
          have kx13 := kx12.still (lift g13 kx12.nle) (g13.same r kx12.rlt (by have := kx12.rlt; omega))
          refine readsS_lift (fun h k => reads_ext0) (readsS_lift (fun h k => reads_ext1) (readsS_lift (fun h k => reads_ext2) ?_))
          refine ⟨?_, trivial⟩
          · refine alloc_rule Tryz.zero33 fun x14 a14 => ⟨?_, ?_⟩
            · exact (a14.old r kx13.rlt).trans kx13.rd
            have z14 := a14.size
            have fm14 := fm13.trans (Fm.al a14 fm13.size)
            have kx14 := kx13.al a14
            exact ⟨fin fm14 kx14 (by omega) (by omega) (by omega) a14.at_ ((a14.old _ (by omega)).trans ((g13.same _ (by omega) (by omega)).trans a12.at_)), trivial⟩
        · refine alloc_rule Tryz.zero33 fun x15 a15 => ⟨?_, ?_⟩
          · exact (a15.old r kx12.rlt).trans kx12.rd
          have z15 := a15.size
          have fm15 := fm12.trans (Fm.al a15 fm12.size)
          have kx15 := kx12.al a15
          refine ⟨?_, trivial⟩
          · refine call64 kx15 fun x16 g16 => ⟨?_, ?_⟩
            · exact ((g16.same r kx15.rlt (by have := kx15.rlt; omega)).trans kx15.rd)
            have z16 := g16.size
            have fm16 := fm15.trans (lift g16 fm15.size)
            have kx16 := kx15.still (lift g16 kx15.nle) (g16.same r kx15.rlt (by have := kx15.rlt; omega))
            refine readsS_lift (fun h k => reads_ext0) (readsS_lift (fun h k => reads_ext1) (readsS_lift (fun h k => reads_ext2) ?_))
            exact ⟨fin fm16 kx16 (by omega) (by omega) (by omega) ((g16.same _ (by omega) (by omega)).trans a15.at_) ((g16.same _ (by omega) (by omega)).trans ((a15.old _ (by omega)).trans a12.at_)), trivial⟩
    · refine alloc_rule Tryz.zero33 fun x17 a17 => ⟨?_, ?_⟩
      · exact (a17.old r kx1.rlt).trans kx1.rd
      have z17 := a17.size
      have fm17 := fm1.trans (Fm.al a17 fm1.size)
      have kx17 := kx1.al a17
      refine ⟨?_, ?_, trivial⟩
      · refine rlang_spec kx17 ⟨kx17.rd, ?_⟩
        refine ⟨?_, ?_, trivial⟩
        · refine call64 kx17 fun x19 g19 => ⟨?_, ?_⟩
          · exact ((g19.same r kx17.rlt (by have := kx17.rlt; omega)).trans kx17.rd)
          have z19 := g19.size
          have fm19 := fm17.trans (lift g19 fm17.size)
          have kx19 := kx17.still (lift g19 kx17.nle) (g19.same r kx17.rlt (by have := kx17.rlt; omega))
          refine readsS_lift (fun h k => reads_ext0) (readsS_lift (fun h k => reads_ext1) (readsS_lift (fun h k => reads_ext2) ?_))
          refine ⟨?_, trivial⟩
          · refine alloc_rule Tryz.zero42 fun x20 a20 => ⟨?_, ?_⟩
            · exact (a20.old r kx19.rlt).trans kx19.rd
            have z20 := a20.size
            have fm20 := fm19.trans (Fm.al a20 fm19.size)
            have kx20 := kx19.al a20
            exact ⟨fin fm20 kx20 (by omega) (by omega) (by omega) ((a20.old _ (by omega)).trans ((g19.same _ (by omega) (by omega)).trans a17.at_)) a20.at_, trivial⟩
        · refine alloc_rule Tryz.zero42 fun x21 a21 => ⟨?_, ?_⟩
          · exact (a21.old r kx17.rlt).trans kx17.rd
          have z21 := a21.size
          have fm21 := fm17.trans (Fm.al a21 fm17.size)
          have kx21 := kx17.al a21
          refine ⟨?_, trivial⟩
          · refine call64 kx21 fun x22 g22 => ⟨?_, ?_⟩
            · exact ((g22.same r kx21.rlt (by have := kx21.rlt; omega)).trans kx21.rd)
            have z22 := g22.size
            have fm22 := fm21.trans (lift g22 fm21.size)
            have kx22 := kx21.still (lift g22 kx21.nle) (g22.same r kx21.rlt (by have := kx21.rlt; omega))
            refine readsS_lift (fun h k => reads_ext0) (readsS_lift (fun h k => reads_ext1) (readsS_lift (fun h k => reads_ext2) ?_))
            exact ⟨fin fm22 kx22 (by omega) (by omega) (by omega) ((g22.same _ (by omega) (by omega)).trans ((a21.old _ (by omega)).trans a17.at_)) ((g22.same _ (by omega) (by omega)).trans a21.at_), trivial⟩
      · refine alloc_rule Tryz.zero42 fun x23 a23 => ⟨?_, ?_⟩
        · exact (a23.old r kx17.rlt).trans kx17.rd
        have z23 := a23.size
        have fm23 := fm17.trans (Fm.al a23 fm17.size)
        have kx23 := kx17.al a23
        refine ⟨?_, trivial⟩
        · refine rlang_spec kx23 ⟨kx23.rd, ?_⟩
          refine ⟨?_, trivial⟩
          · refine call64 kx23 fun x25 g25 => ⟨?_, ?_⟩
            · exact ((g25.same r kx23.rlt (by have := kx23.rlt; omega)).trans kx23.rd)
            have z25 := g25.size
            have fm25 := fm23.trans (lift g25 fm23.size)
            have kx25 := kx23.still (lift g25 kx23.nle) (g25.same r kx23.rlt (by have := kx23.rlt; omega))
            refine readsS_lift (fun h k => reads_ext0) (readsS_lift (fun h k => reads_ext1) (readsS_lift (fun h k => reads_ext2) ?_))
            exact ⟨fin fm25 kx25 (by omega) (by omega) (by omega) ((g25.same _ (by omega) (by omega)).trans ((a23.old _ (by omega)).trans a17.at_)) ((g25.same _ (by omega) (by omega)).trans a23.at_), trivial⟩
    · refine alloc_rule Tryz.zero42 fun x26 a26 => ⟨?_, ?_⟩
      · exact (a26.old r kx1.rlt).trans kx1.rd
      have z26 := a26.size
      have fm26 := fm1.trans (Fm.al a26 fm1.size)
      have kx26 := kx1.al a26
      refine ⟨?_, ?_, trivial⟩
      · refine rlang_spec kx26 ⟨kx26.rd, ?_⟩
        refine ⟨?_, ?_, trivial⟩
        · refine call64 kx26 fun x28 g28 => ⟨?_, ?_⟩
          · exact ((g28.same r kx26.rlt (by have := kx26.rlt; omega)).trans kx26.rd)
          have z28 := g28.size
          have fm28 := fm26.trans (lift g28 fm26.size)
          have kx28 := kx26.still (lift g28 kx26.nle) (g28.same r kx26.rlt (by have := kx26.rlt; omega))
          refine readsS_lift (fun h k => reads_ext0) (readsS_lift (fun h k => reads_ext1) (readsS_lift (fun h k => reads_ext2) ?_))
          refine ⟨?_, trivial⟩
          · refine alloc_rule Tryz.zero33 fun x29 a29 => ⟨?_, ?_⟩
            · exact (a29.old r kx28.rlt).trans kx28.rd
            have z29 := a29.size
            have fm29 := fm28.trans (Fm.al a29 fm28.size)
            have kx29 := kx28.al a29
            exact ⟨fin fm29 kx29 (by omega) (by omega) (by omega) a29.at_ ((a29.old _ (by omega)).trans ((g28.same _ (by omega) (by omega)).trans a26.at_)), trivial⟩
        · refine alloc_rule Tryz.zero33 fun x30 a30 => ⟨?_, ?_⟩
          · exact (a30.old r kx26.rlt).trans kx26.rd
          have z30 := a30.size
          have fm30 := fm26.trans (Fm.al a30 fm26.size)
          have kx30 := kx26.al a30
          refine ⟨?_, trivial⟩
          · refine call64 kx30 fun x31 g31 => ⟨?_, ?_⟩
            · exact ((g31.same r kx30.rlt (by have := kx30.rlt; omega)).trans kx30.rd)
            have z31 := g31.size
            have fm31 := fm30.trans (lift g31 fm30.size)
            have kx31 := kx30.still (lift g31 kx30.nle) (g31.same r kx30.rlt (by have := kx30.rlt; omega))
            refine readsS_lift (fun h k => reads_ext0) (readsS_lift (fun h k => reads_ext1) (readsS_lift (fun h k => reads_ext2) ?_))
            exact ⟨fin fm31 kx31 (by omega) (by omega) (by omega) ((g31.same _ (by omega) (by omega)).trans a30.at_) ((g31.same _ (by omega) (by omega)).trans ((a30.old _ (by omega)).trans a26.at_)), trivial⟩
      · refine alloc_rule Tryz.zero33 fun x32 a32 => ⟨?_, ?_⟩
        · exact (a32.old r kx26.rlt).trans kx26.rd
        have z32 := a32.size
        have fm32 := fm26.trans (Fm.al a32 fm26.size)
        have kx32 := kx26.al a32
        refine ⟨?_, trivial⟩
        · refine rlang_spec kx32 ⟨kx32.rd, ?_⟩
          refine ⟨?_, trivial⟩
          · refine call64 kx32 fun x34 g34 => ⟨?_, ?_⟩
            · exact ((g34.same r kx32.rlt (by have := kx32.rlt; omega)).trans kx32.rd)
            have z34 := g34.size
            have fm34 := fm32.trans (lift g34 fm32.size)
            have kx34 := kx32.still (lift g34 kx32.nle) (g34.same r kx32.rlt (by have := kx32.rlt; omega))
            refine readsS_lift (fun h k => reads_ext0) (readsS_lift (fun h k => reads_ext1) (readsS_lift (fun h k => reads_ext2) ?_))
            exact ⟨fin fm34 kx34 (by omega) (by omega) (by omega) ((g34.same _ (by omega) (by omega)).trans a32.at_) ((g34.same _ (by omega) (by omega)).trans ((a32.old _ (by omega)).trans a26.at_)), trivial⟩
  rw [if_neg (of_decide_eq_false h91)] at hk
  refine rsign_spec c1 (ris_spec c1 (by unfold signM; split <;> simp) ?_)
  rw [boolV_bool]
  refine bcase_of (fun h40 => ?_) (fun h40 => ?_)
  · rw [if_pos h40] at hk
    exact rgroup_spec c1 h40 hcode hend hread (back hk (Fm.refl ..))
  rw [if_neg (by rw [h40]; simp)] at hk
  refine Join1.intro (fun v h' => h' = h1 ∧ v = .bool (isM l (signM ext 123) p || ((!ext && isM l [92, 125] p) || (ext && ([42, 43, 63] : List UInt8).contains l[p])))) ?_ ?_
  · refine rsign_spec c1 (ris_spec c1 (by unfold signM; split <;> simp) ?_)
    rw [boolV_bool]
    refine bcase_of (fun h123 => ⟨rfl, by rw [h123]; rfl⟩) (fun h123 => ?_)
    rw [h123]
    refine Join1.intro (fun v h' => h' = h1 ∧ v = .bool (!ext && isM l [92, 125] p)) ?_ ?_
    · rw [reads_nil, Tryz.fa71_2, addr_add, Nat.zero_add, c1.ld2, reads_not, boolV_bool]
      refine bcase_of (fun he => ?_) (fun he => ⟨rfl, by rw [he]; rfl⟩)
      rw [he]
      exact ris_spec c1 (by simp) ⟨rfl, rfl⟩
    rintro v h' ⟨rfl, rfl⟩
    rw [boolV_bool]
    refine bcase_of (fun h125 => ⟨rfl, by rw [h125]; rfl⟩) (fun h125 => ?_)
    rw [h125, reads_nil, Tryz.fa71_2, addr_add, Nat.zero_add, c1.ld2, boolV_bool]
    refine bcase_of (fun he => ?_) (fun he => ⟨rfl, by rw [he]; rfl⟩)
    rw [he]
    exact rin_spec (s := [42, 43, 63]) (by simp) ⟨rfl, rfl⟩
  rintro v h' ⟨rfl, rfl⟩
  rw [boolV_bool]
  refine bcase_of (fun hx => ?_) (fun hx => ?_)
  · rw [if_pos hx] at hk
    rw [reads_nil, Tryz.fa71_1, addr_add, Nat.zero_add, c1.ld1]
    exact rfail_spec (e := 3) c1 (by omega) fun h2 f2 c2 => back (m' := .bad 3 p) hk (Fm.refl ..) h2 _ (.node 0 .zero 0 0 0 []) _ _ f2 c2 IsRe.leaf
  rw [if_neg (by rw [hx]; simp)] at hk
  rw [reads_eq, show decide ((l[p].toNat : Int) = 92) = decide (l[p] = 92) from dec_u8_eq _ 92, boolV_bool]
  refine bcase_of (fun h92 => ?_) (fun h92 => ?_)
  · rw [if_pos (of_decide_eq_true h92)] at hk
    exact rescape_spec c1 hp (back hk (Fm.refl ..))
  rw [if_neg (of_decide_eq_false h92)] at hk
  rw [reads_nil, Tryz.fa71_1, addr_add, Nat.zero_add, c1.ld1, reads_add, wrap_n1 _ (by omega), reads_nil, Tryz.fa71_1, addr_add, Nat.zero_add]
  refine c1.goto (by omega) fun h2 f2 s2 o2 c2 => ?_
  refine one_spec fun h3 f3 => ?_
  have s3 := f3.size
  have f3' : Fm h2.size r h2 h3 := ⟨s3, fun k k1 _ => f3.same k k1 (by omega)⟩
  exact back (m' := .ok (single l[p], p + 1, gr)) hk f2 h3 _ f3' (c2.still (f3'.less c2.nle) (f3.same r (by omega) (by omega))) IsRe.leaf
end Rt
end Go.Proofs

set_option maxRecDepth 100000
namespace Go.Proofs
open Go.Vcg
namespace Rt
variable {l : List UInt8} {p gr : Nat}

/-! ### The basic grammar: codes, and where it ends -/
theorem timesBM_code : ∀ (k : Nat) {t : T} {p e w : Nat}, timesBM k l t p = .bad e w → e ≠ 0
  | 0, t, p, e, w, h => by unfold timesBM at h; cases h
  | k + 1, t, p, e, w, h => by
    unfold timesBM at h
    split at h
    · exact timesBM_code k h
    split at h
    · split at h
      · exact timesBM_code k h
      · rename_i a b hi; cases h; exact intM_code hi
      · cases h
    · cases h
theorem timesBM_le : ∀ (k : Nat) {t : T} {p : Nat} {x : T × Nat}, p ≤ l.length → timesBM k l t p = .ok x → x.2 ≤ l.length
  | 0, t, p, x, hp, h => by unfold timesBM at h; cases h
  | k + 1, t, p, x, hp, h => by
    unfold timesBM at h
    split at h
    · rename_i h1; exact timesBM_le k (isM_lt h1) h
    split at h
    · rename_i h1
      have := isM_le hp h1
      split at h
      · rename_i y hi
        exact timesBM_le k (intM_le (by simp) (by simpa using this) hi).2.1 h
      · cases h
      · cases h
    · cases h; exact hp
theorem groupM_code {start : Nat} {shut : List UInt8} {m : Res (T × Nat × Nat)} {e w : Nat} (hm : ∀ e w, m = .bad e w → e ≠ 0) (h : groupM l start shut gr m = .bad e w) : e ≠ 0 := by
  unfold groupM at h
  split at h
  · cases h; omega
  · split at h
    · split at h
      · cases h
      · cases h; omega
    · cases h; exact hm _ _ rfl
    · cases h
theorem codeB : ∀ (f : Nat), (∀ {p op gr e w : Nat}, atomM f l p op gr = .bad e w → e ≠ 0) ∧ (∀ {ts : List T} {p op gr e w : Nat}, basL f l ts p op gr = .bad e w → e ≠ 0) ∧ (∀ {p op gr e w : Nat}, basicM f l p op gr = .bad e w → e ≠ 0)
  | 0 => by
    refine ⟨?_, ?_, ?_⟩
    · intro p op gr e w h
      unfold atomM at h
      cases h
    · intro ts p op gr e w h
      unfold basL at h
      cases h
    · intro p op gr e w h
      unfold basicM at h
      cases h
  | f + 1 => by
    obtain ⟨iA, iL, iB⟩ := codeB f
    have fin : ∀ {ts : List T} {p gr e w : Nat}, finB l ts p gr = .bad e w → e ≠ 0 := by
      intro ts p gr e w h
      unfold finB at h
      split at h
      · cases h; omega
      · cases h
    refine ⟨?_, ?_, ?_⟩
    · intro p op gr e w h
      unfold atomM at h
      split at h
      · exact groupM_code (fun e w h => iB h) h
      split at h
      · cases h; omega
      split at h
      · exact escM_code (with_bad h)
      split at h
      · cases h
      split at h
      · exact brkM_code (with_bad h)
      · split at h <;> cases h
    · intro ts p op gr e w h
      unfold basL at h
      split at h
      · exact fin h
      split at h
      · exact fin h
      cases hm : atomM f l p op gr with
      | out => rw [hm] at h; cases h
      | bad a b => rw [hm] at h; cases h; exact iA hm
      | ok x =>
        rw [hm] at h
        obtain ⟨t, q, g⟩ := x
        simp only at h
        cases hm2 : timesBM f l t q with
        | out => rw [hm2] at h; cases h
        | bad a b => rw [hm2] at h; cases h; exact timesBM_code f hm2
        | ok y => rw [hm2] at h; exact iL h
    · intro p op gr e w h
      unfold basicM at h
      split at h
      · exact iL h
      · exact iL h
theorem brkM_le {ext : Bool} {x : T × Nat} (hp : p ≤ l.length) (h : brkM ext l p = .ok x) : x.2 ≤ l.length := by
  have := bracketS_end (l := l) (lang := langN ext) hp
  unfold brkM at h
  split at h
  · rename_i y hy
    cases h
    rw [hy] at this
    exact this.2.2
  · cases h
  · cases h
theorem escM_le {signs : List UInt8} {x : T × Nat} (h : escM l signs p = .ok x) : x.2 ≤ l.length := by
  unfold escM at h
  split at h
  · cases h
  · rename_i c hc
    have : p + 1 < l.length := by
      apply Nat.lt_of_not_le
      intro hle
      rw [List.getElem?_eq_none hle] at hc
      cases hc
    split at h
    · cases h; exact this
    · split at h
      · cases h; exact this
      · cases h
theorem with_okR {m : Res (T × Nat)} {t : T} {q g : Nat} (h : m.with gr = .ok (t, q, g)) : m = .ok (t, q) := by
  cases m with
  | out => cases h
  | bad c q => cases h
  | ok y => obtain ⟨t', q'⟩ := y; cases h; rfl
theorem stopB : ∀ (f : Nat), (∀ {p op gr : Nat} {t : T} {q g : Nat}, p < l.length → atomM f l p op gr = .ok (t, q, g) → q ≤ l.length) ∧
    (∀ {ts : List T} {p op gr : Nat} {t : T} {q g : Nat}, p ≤ l.length → basL f l ts p op gr = .ok (t, q, g) → q ≤ l.length ∧ (l.length ≤ q ∨ isM l [92, 41] q = true)) ∧
    (∀ {p op gr : Nat} {t : T} {q g : Nat}, p ≤ l.length → basicM f l p op gr = .ok (t, q, g) → q ≤ l.length ∧ (l.length ≤ q ∨ isM l [92, 41] q = true))
  | 0 => by
    refine ⟨?_, ?_, ?_⟩
    · intro p op gr t q g _ h
      unfold atomM at h
      cases h
    · intro ts p op gr t q g _ h
      unfold basL at h
      cases h
    · intro p op gr t q g _ h
      unfold basicM at h
      cases h
  | f + 1 => by
    obtain ⟨iA, iL, iB⟩ := stopB f
    refine ⟨?_, ?_, ?_⟩
    · intro p op gr t q g hp h
      unfold atomM at h
      split at h
      · rename_i h40
        have l40 := isM_le (by omega) h40
        unfold groupM at h
        split at h
        · cases h
        cases hm : basicM f l (p + 2) (op + 1) (gr + 1) with
        | out => rw [hm] at h; cases h
        | bad a b => rw [hm] at h; cases h
        | ok x =>
          rw [hm] at h
          obtain ⟨t', q', g'⟩ := x
          have := iB (by simpa using l40) hm
          simp only at h
          split at h
          · rename_i h41
            have := isM_le this.1 h41
            cases h
            exact this
          · cases h
      split at h
      · cases h
      split at h
      · exact escM_le (with_okR h)
      split at h
      · cases h; exact hp
      split at h
      · exact brkM_le (by omega) (with_okR h)
      · split at h
        · cases h; exact hp
        · cases h
    · intro ts p op gr t q g hp h
      unfold basL at h
      split at h
      · rename_i hc
        unfold finB at h
        split at h
        · cases h
        · cases h; exact ⟨hp, hc⟩
      split at h
      · rename_i hc
        have := isM_lt hc.1
        unfold finB at h
        split at h
        · cases h
        · cases h; exact ⟨this, hc.2.imp (fun e => by omega) id⟩
      rename_i hc _
      have hlt : p < l.length := Nat.lt_of_not_le fun e => hc (.inl e)
      cases hm : atomM f l p op gr with
      | out => rw [hm] at h; cases h
      | bad a b => rw [hm] at h; cases h
      | ok x =>
        rw [hm] at h
        obtain ⟨t', q', g'⟩ := x
        have h1 := iA hlt hm
        simp only at h
        cases hm2 : timesBM f l t' q' with
        | out => rw [hm2] at h; cases h
        | bad a b => rw [hm2] at h; cases h
        | ok y =>
          rw [hm2] at h
          exact iL (timesBM_le f h1 hm2) h
    · intro p op gr t q g hp h
      unfold basicM at h
      split at h
      · rename_i h94
        exact iL (isM_lt h94) h
      · exact iL hp h
theorem group_bas {start : Nat} {m : Res (T × Nat × Nat)} (hm : ∀ t q g, m = .ok (t, q, g) → q ≤ l.length ∧ (l.length ≤ q ∨ isM l [92, 41] q = true)) : groupR false l start gr m = groupM l start [92, 41] gr m := by
  unfold groupR groupM
  split
  · rfl
  cases m with
  | out => rfl
  | bad a b => rfl
  | ok x =>
    obtain ⟨t, q, g⟩ := x
    obtain ⟨h1, h2⟩ := hm t q g rfl
    simp only
    by_cases hl : l.length ≤ q
    · have e : q = l.length := by omega
      subst e
      have : isM l [92, 41] l.length = false := by unfold isM; simp
      rw [if_pos (Nat.le_refl _), if_neg (by rw [this]; simp)]
    · rw [if_neg hl, if_pos (h2.resolve_left hl)]
      rfl
theorem two_one {x y : UInt8} (h : isM l [x, y] p = true) : isM l [x] p = true := by
  unfold isM at *
  cases hd : l.drop p with
  | nil => rw [hd] at h; simp at h
  | cons c r =>
    rw [hd] at h
    simp only [List.isPrefixOf, Bool.and_eq_true] at h ⊢
    exact ⟨h.1, trivial⟩
theorem at_dec {x : UInt8} (hp : p < l.length) : isM l [x] p = decide (l[p] = x) := by
  rw [isM_one]
  unfold isB
  rw [List.getElem?_eq_getElem hp]
  exact decide_eq_decide.2 (by simp)
theorem atom_bas {k op : Nat} (hp : p < l.length) : atomR false l p gr (basicM k l (p + 2) (op + 1) (gr + 1)) = atomM (k + 1) l p op gr := by
  have hg : isM l [92, 40] p = true → groupR false l p gr (basicM k l (p + 2) (op + 1) (gr + 1)) = groupM l p [92, 41] gr (basicM k l (p + 2) (op + 1) (gr + 1)) := fun h =>
    group_bas fun t q g h2 => (stopB k).2.2 (by have := isM_le (by omega) h; simpa using this) h2
  have two : ∀ {y : UInt8}, l[p] ≠ 92 → isM l [92, y] p = false := by
    intro y h
    cases e : isM l [92, y] p with
    | false => rfl
    | true =>
      have := two_one e
      rw [at_dec hp] at this
      exact absurd (of_decide_eq_true this) h
  unfold atomR atomM
  rw [List.getElem?_eq_getElem hp]
  simp only [at_dec hp, decide_eq_true_eq]
  have e40 : signM false 40 = [92, 40] := rfl
  have e123 : signM false 123 = [92, 123] := rfl
  have es : signsOf false = basSigns := rfl
  rw [e40, e123, es]
  by_cases h92 : l[p] = 92
  · rw [if_neg (by rw [h92]; decide), if_neg (by rw [h92]; decide)]
    by_cases h40 : isM l [92, 40] p = true
    · rw [if_pos h40, if_pos h40, hg h40]
    rw [if_neg h40, if_neg h40]
    simp only [Bool.not_false, Bool.true_and, Bool.false_and, Bool.or_false, Bool.or_eq_true]
    rw [if_pos h92, if_pos h92]
  · rw [two h92, two h92, two h92, if_neg h92, if_neg h92]
    simp only [Bool.false_eq_true, if_false, Bool.false_and, Bool.and_false, Bool.or_false, or_self]
theorem atom_ext {k : Nat} (hp : p < l.length) : atomR true l p gr (extX k l [] (p + 1) (gr + 1)) = atomX (k + 1) l p gr := by
  unfold atomR atomX
  rw [List.getElem?_eq_getElem hp]
  have e40 : signM true 40 = [40] := rfl
  have e123 : signM true 123 = [123] := rfl
  have es : signsOf true = extSigns := rfl
  rw [e40, e123, es]
  simp only [at_dec hp, decide_eq_true_eq]
  have e3 : (([42, 43, 63] : List UInt8).contains l[p]) = (decide (l[p] = 42) || (decide (l[p] = 43) || decide (l[p] = 63))) := by
    rw [Bool.eq_iff_iff]
    simp
  rw [e3]
  simp only [Bool.not_true, Bool.true_and, Bool.false_and, Bool.false_or, Bool.or_eq_true, decide_eq_true_eq]
end Rt
end Go.Proofs
