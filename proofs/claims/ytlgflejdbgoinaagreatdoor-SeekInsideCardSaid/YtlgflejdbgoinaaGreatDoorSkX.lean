/- A part of the proofs over this seat: SkX. -/
import Derived.Shelf.Strings.Builder1
import Derived.Shelf.Strings.Builder2
import Derived.Shelf.Strings.OnBuilder
import Derived.Shelf.Small.Wraps
import Derived.Shelf.Strconv.Itoa0
import Derived.Shelf.Strconv.Itoa1
import Derived.Shelf.LaysM
import Derived.Shelf.Strconv.Itoa2
import Derived.Shelf.Strconv.Itoa3
import Derived.Shelf.Strconv.Itoa4
import Derived.Shelf.Strings.Search1
import Derived.Shelf.Strings.Search2
import Derived.Shelf.Strings.Cut
import Derived.Shelf.Strings.Shaped
import Derived.Shelf.Strings.Prefix
import Derived.Test.YtlgflejdbgoinaaGreatDoorProg
import Derived.Test.YtlgflejdbgoinaaGreatDoorSkQ3
import Derived.Test.YtlgflejdbgoinaaGreatDoorBld
set_option linter.unusedVariables false
set_option linter.unusedSimpArgs false
set_option maxRecDepth 100000
namespace Go.Proofs
open Go.Shelf
def Tryz.lays156_ren : Go.Shelf.Ren := ⟨fun | 156 => 47 | 165 => 64 | 166 => 60 | 169 => 62 | 240 => 72 | 241 => 73 | 276 => 85 | 277 => 86 | n => n, fun | 31 => 22 | 9 => 9 | 3 => 3 | 4 => 4 | 0 => 0 | 20 => 20 | 72 => 117 | 76 => 118 | 70 => 114 | 37 => 115 | 75 => 26 | 127 => 131 | 164 => 84 | 5 => 5 | 80 => 30 | n => n, fun | n => n⟩
theorem Tryz.lays156 : Go.Proofs.Lays.n156 Tryz.prog Tryz.lays156_ren := {
  mixed := by kernel_rfl
  f156 := Tryz.func47.trans (congrArg some (by kernel_rfl))
  f165 := Tryz.func64.trans (congrArg some (by kernel_rfl))
  f166 := Tryz.func60.trans (congrArg some (by kernel_rfl))
  f169 := Tryz.func62.trans (congrArg some (by kernel_rfl))
  f240 := Tryz.func72.trans (congrArg some (by kernel_rfl))
  f241 := Tryz.func73.trans (congrArg some (by kernel_rfl))
  f276 := Tryz.func85.trans (congrArg some (by kernel_rfl))
  f277 := Tryz.func86.trans (congrArg some (by kernel_rfl))
  t0 := Tryz.underlying0
  a0 := Tryz.isAgg0
  z0 := Tryz.sizeOf0
  v0 := Tryz.zeroValue0
  t3 := Tryz.underlying3
  a3 := Tryz.isAgg3
  z3 := Tryz.sizeOf3
  v3 := Tryz.zeroValue3
  t4 := Tryz.underlying4
  a4 := Tryz.isAgg4
  z4 := Tryz.sizeOf4
  v4 := Tryz.zeroValue4
  t9 := Tryz.underlying9
  a9 := Tryz.isAgg9
  z9 := Tryz.sizeOf9
  v9 := Tryz.zeroValue9
  t20 := Tryz.underlying20
  a20 := Tryz.isAgg20
  z20 := Tryz.sizeOf20
  v20 := Tryz.zeroValue20
  t31 := Tryz.underlying22
  a31 := Tryz.isAgg22
  z31 := Tryz.sizeOf22
  v31 := Tryz.zeroValue22
  t37 := Tryz.underlying115
  a37 := Tryz.isAgg115
  z37 := Tryz.sizeOf115
  v37 := Tryz.zeroValue115
  t70 := Tryz.underlying114
  a70 := Tryz.isAgg114
  z70 := Tryz.sizeOf114
  v70 := Tryz.zeroValue114
  t72 := Tryz.underlying117
  a72 := Tryz.isAgg117
  z72 := Tryz.sizeOf117
  v72 := Tryz.zeroValue117
  t75 := Tryz.underlying26
  a75 := Tryz.isAgg26
  z75 := Tryz.sizeOf26
  v75 := Tryz.zeroValue26
  t76 := Tryz.underlying118
  a76 := Tryz.isAgg118
  z76 := Tryz.sizeOf118
  v76 := Tryz.zeroValue118
  t127 := Tryz.underlying131
  a127 := Tryz.isAgg131
  z127 := Tryz.sizeOf131
  v127 := Tryz.zeroValue131
  t164 := Tryz.underlying84
  a164 := Tryz.isAgg84
  z164 := Tryz.sizeOf84
  v164 := Tryz.zeroValue84 }
theorem Tryz.Builder_Extra_156 : Builder.Extra Tryz.prog Tryz.lays156_ren := {
  sizeBuilder := by kernel_rfl
  liesBuilder := by kernel_rfl
  t5 := Tryz.underlying5
  a5 := Tryz.isAgg5
  z5 := Tryz.sizeOf5
  v5 := Tryz.zeroValue5
  infoByte := by kernel_rfl
  cellsByte := by kernel_rfl
  sizeByte := by kernel_rfl
  neB5 := by decide }
open Go.RowKit in
theorem Tryz.strings_Join_none (a : Option Addr) (c : Nat) (sep : ByteArray) (w : World) :
    Calls Tryz.prog 47 #[.slice a 0 c, .string sep] w fun e w' => e = .returned (.string ⟨#[]⟩) ∧ w' = w := Any.strings_Join_none Tryz.lays156 Tryz.Builder_Extra_156 a c sep w
open Go.RowKit in
theorem Tryz.strings_Join (bk o c : Nat) (xs : List ByteArray) (sep : ByteArray) (w : World) (hcells : ∀ (j : Nat) x, xs[j]? = some x → w.cell? ⟨bk, o + j, none⟩ = some (.string x)) (hbk : bk < w.heap.size) (hN : xs.length ≤ 140737488355328) (hcap : xs.length ≤ c) (hlen : (Lib.join (xs.map (·.data.toList)) sep.data.toList).length ≤ 140737488355328) :
    Calls Tryz.prog 47 #[.slice (some ⟨bk, o, none⟩) xs.length c, .string sep] w fun e w' => e = .returned (.string ⟨(Lib.join (xs.map (·.data.toList)) sep.data.toList).toArray⟩) ∧ Below w.heap.size w w' := Any.strings_Join Tryz.lays156 Tryz.Builder_Extra_156 bk o c xs sep w hcells hbk hN hcap hlen
def Tryz.laysM173_ren : Go.Shelf.Ren := ⟨fun | 173 => 53 | 246 => 67 | 283 => 76 | 284 => 77 | 285 => 78 | 286 => 79 | 129 => 89 | 317 => 88 | 318 => 90 | 319 => 91 | 320 => 92 | 337 => 99 | 338 => 100 | n => n, fun | 2 => 2 | 3 => 3 | 9 => 9 | 4 => 4 | 171 => 137 | 0 => 0 | 53 => 121 | 37 => 115 | 5 => 5 | 173 => 140 | 212 => 161 | 51 => 162 | 20 => 20 | 213 => 163 | 46 => 122 | 232 => 183 | 233 => 130 | n => n, fun | 17 => 22 | 18 => 24 | 19 => 25 | n => n⟩
theorem Tryz.laysM173 : Go.Proofs.LaysM.n173 Tryz.prog Tryz.laysM173_ren := {
  mixed := by kernel_rfl
  f129 := Tryz.func89.trans (congrArg some (by kernel_rfl))
  f173 := Tryz.func53.trans (congrArg some (by kernel_rfl))
  f246 := Tryz.func67.trans (congrArg some (by kernel_rfl))
  f283 := Tryz.func76.trans (congrArg some (by kernel_rfl))
  f284 := Tryz.func77.trans (congrArg some (by kernel_rfl))
  f285 := Tryz.func78.trans (congrArg some (by kernel_rfl))
  f286 := Tryz.func79.trans (congrArg some (by kernel_rfl))
  f317 := Tryz.func88.trans (congrArg some (by kernel_rfl))
  f318 := Tryz.func90.trans (congrArg some (by kernel_rfl))
  f319 := Tryz.func91.trans (congrArg some (by kernel_rfl))
  f320 := Tryz.func92.trans (congrArg some (by kernel_rfl))
  f337 := Tryz.func99.trans (congrArg some (by kernel_rfl))
  f338 := Tryz.func100.trans (congrArg some (by kernel_rfl))
  t0 := Tryz.underlying0
  a0 := Tryz.isAgg0
  z0 := Tryz.sizeOf0
  v0 := Tryz.zeroValue0
  t2 := Tryz.underlying2
  a2 := Tryz.isAgg2
  z2 := Tryz.sizeOf2
  v2 := Tryz.zeroValue2
  t3 := Tryz.underlying3
  a3 := Tryz.isAgg3
  z3 := Tryz.sizeOf3
  v3 := Tryz.zeroValue3
  t4 := Tryz.underlying4
  a4 := Tryz.isAgg4
  z4 := Tryz.sizeOf4
  v4 := Tryz.zeroValue4
  t5 := Tryz.underlying5
  a5 := Tryz.isAgg5
  z5 := Tryz.sizeOf5
  v5 := Tryz.zeroValue5
  t9 := Tryz.underlying9
  a9 := Tryz.isAgg9
  z9 := Tryz.sizeOf9
  v9 := Tryz.zeroValue9
  t20 := Tryz.underlying20
  a20 := Tryz.isAgg20
  z20 := Tryz.sizeOf20
  v20 := Tryz.zeroValue20
  t37 := Tryz.underlying115
  a37 := Tryz.isAgg115
  z37 := Tryz.sizeOf115
  v37 := Tryz.zeroValue115
  t46 := Tryz.underlying122
  a46 := Tryz.isAgg122
  z46 := Tryz.sizeOf122
  v46 := Tryz.zeroValue122
  t51 := Tryz.underlying162
  a51 := Tryz.isAgg162
  z51 := Tryz.sizeOf162
  v51 := Tryz.zeroValue162
  t53 := Tryz.underlying121
  a53 := Tryz.isAgg121
  z53 := Tryz.sizeOf121
  v53 := Tryz.zeroValue121
  t171 := Tryz.underlying137
  a171 := Tryz.isAgg137
  z171 := Tryz.sizeOf137
  v171 := Tryz.zeroValue137
  t173 := Tryz.underlying140
  a173 := Tryz.isAgg140
  z173 := Tryz.sizeOf140
  v173 := Tryz.zeroValue140
  t212 := Tryz.underlying161
  a212 := Tryz.isAgg161
  z212 := Tryz.sizeOf161
  v212 := Tryz.zeroValue161
  t213 := Tryz.underlying163
  a213 := Tryz.isAgg163
  z213 := Tryz.sizeOf163
  t232 := Tryz.underlying183
  a232 := Tryz.isAgg183
  z232 := Tryz.sizeOf183
  v232 := Tryz.zeroValue183
  t233 := Tryz.underlying130
  a233 := Tryz.isAgg130
  z233 := Tryz.sizeOf130
  v233 := Tryz.zeroValue130
  g17 := by kernel_rfl
  g18 := by kernel_rfl
  g19 := by kernel_rfl
  i0 := by kernel_rfl
  i2 := by kernel_rfl
  i3 := by kernel_rfl
  i4 := by kernel_rfl
  i5 := by kernel_rfl
  i9 := by kernel_rfl
  i20 := by kernel_rfl
  i37 := by kernel_rfl
  i46 := by kernel_rfl
  i51 := by kernel_rfl
  i53 := by kernel_rfl
  i171 := by kernel_rfl
  i173 := by kernel_rfl
  i212 := by kernel_rfl
  i232 := by kernel_rfl
  i233 := by kernel_rfl
  m17 := by kernel_rfl
  m18 := by kernel_rfl
  m19 := by kernel_rfl }
open Go.RowKit Go.Sort Go.Lib in
theorem Tryz.strconv_FormatInt_10 (n : Int) (h0 : -9223372036854775808 ≤ n) (h1 : n ≤ 9223372036854775807) (w : World) (htab : Lib.TabIs Tryz.prog w "internal/strconv.uint64pow10" .u64 Lib.pow10Tab) :
    Calls Tryz.prog 53 #[.int .i64 n, .int .i64 10] w fun e w' => e = .returned (.string ⟨(Lib.itoa n).toArray⟩) ∧ ∃ k os, w' = grow (w.drewN k) os := Any.strconv_FormatInt_10 Tryz.laysM173 n h0 h1 w htab
end Go.Proofs

set_option maxRecDepth 100000
namespace Go.Proofs
open Go.Vcg Go.Extern
namespace Rt
attribute [local congr] Reads.congr ReadsS.congr pLoad.congr pLoadS.congr pStore.congr Runs.congr CallsH.congr bcase.congr boolV.congr Stable.congr pAlloc.congr
variable {S : Glb} {n : Nat} {h : Heap} {R : Value → Heap → Prop} {E : List PanicEntry → Heap → Prop}

/-! ### A string's bytes, written as digits -/
theorem string_none {b : Nat} {p : Value} (hb : h[b]? = some (.cells #[p, .slice none 0 0] 117 (0, 0))) (hk : R (str []) h) : CallsH Tryz.prog 62 #[ptr b] h R E := by
  refine C62 ?_
  unfold S62
  have hl : ∀ k : Value → Prop, pLoad Tryz.prog 115 (.pointer (some ⟨b, 1, none⟩)) h k = k (.slice none 0 0) := fun k => pLoad_one Tryz.agg115 (by rw [hcell_of hb]; rfl)
  rw [reads_nil, Tryz.fa117_1, addr_add, Nat.zero_add, hl]
  rw [reads_pure (s := builtinS .unsafeSliceData #[115] 131 #[.slice none 0 0]) (v := .pointer none) (fun w => Go.Lib.run_unsafeSliceData_nil (P := Tryz.prog) w #[115] 131 0 0)]
  rw [reads_nil, Tryz.fa117_1, addr_add, Nat.zero_add, hl, reads_rlen Tryz.underlying115]
  refine ⟨?_, trivial⟩
  intro w hw
  subst hw
  have hr := Go.Lib.run_unsafeString_none (P := Tryz.prog) w 131 3 9 none
  have e0 : (Value.int IntKind.i64 ((0 : Nat) : Int)) = .int .i64 0 := rfl
  simp only [builtin, Sem.run_bind, e0, hr, Result.andThen_ok, Sem.run_pure, uponH]
  exact ⟨⟨rfl, rfl, rfl⟩, trivial, hk⟩
theorem SB.fm {h' : Heap} {b : Nat} {l : List UInt8} (hs : SB h n b l) (hn : n ≤ h.size) (f : Fm h.size h.size h h') : SB h' n b l := by
  obtain ⟨h1, p, v, hp, hb, hr⟩ := hs
  exact ⟨h1, p, v, hp, (f.same b (by omega) (by omega)).trans hb, hr.frame fun k _ hk => f.same k hk (by omega)⟩
def hexS (s : Op) : Op := 34 :: (s.flatMap hexM ++ [34])
theorem hexM_two (c : UInt8) : (hexM c).length = 2 := rfl
theorem flat_hex (s : Op) : (s.flatMap hexM).length = 2 * s.length := by
  induction s with
  | nil => rfl
  | cons c s ih => rw [List.flatMap_cons, List.length_append, ih, hexM_two, List.length_cons]; omega
theorem hex_spec {s : Op} (hs : s.length ≤ 1024) (hk : ∀ h', Fm h.size h.size h h' → R (str (hexS s)) h') : CallsH Tryz.prog 45 #[str s] h R E := by
  refine C45 ?_
  unfold S45
  refine alloc_rule Tryz.zero117 fun h1 a1 => ?_
  have s1 := a1.size
  rw [reads_slen Tryz.underlying9]
  refine Loop1.fuel (fun k a h' => ∃ i : Nat, a = .int .i64 i ∧ i ≤ s.length ∧ k = s.length - i ∧ SB h' h1.size h.size ((s.take i).flatMap hexM) ∧ Fm h.size h.size h h' ∧ h1.size ≤ h'.size ∧ (i = 0 → h'[h.size]? = some (.cells #[.pointer none, .slice none 0 0] 117 (0, 0)))) (n := s.length)
    ⟨0, rfl, by omega, by omega, ⟨by omega, .pointer none, .slice none 0 0, .inl rfl, a1.at_, Owns.nil ..⟩, Fm.al a1 (Nat.le_refl _), Nat.le_refl _, fun _ => a1.at_⟩ fun k a h2 hi => ?_
  obtain ⟨i, rfl, hil, rfl, hsb, f2, hs2, h0⟩ := hi
  rw [reads_lt, dec_nn_lt, boolV_bool]
  refine bcase_of (fun hc => ?_) (fun hc => ?_)
  · have hlt := of_decide_eq_true hc
    have hcl := s[i].toNat_lt
    have e1 : ((s[i].toNat : Int).fdiv (2 ^ (min ((4 : Int)).toNat IntKind.u8.bits))) = ((s[i].toNat / 16 : Nat) : Int) := by
      have : (2 : Int) ^ (min ((4 : Int)).toNat IntKind.u8.bits) = 16 := by decide
      rw [this, Int.fdiv_eq_ediv_of_nonneg _ (by omega)]
      rfl
    have e2 : IntKind.u8.wrap (BitVec.ofInt IntKind.u8.bits (s[i].toNat : Int) &&& BitVec.ofInt IntKind.u8.bits 15).toNat = ((s[i].toNat % 16 : Nat) : Int) := by
      have : (BitVec.ofInt IntKind.u8.bits (s[i].toNat : Int) &&& BitVec.ofInt IntKind.u8.bits 15).toNat = s[i].toNat % 16 := and15_8 (by omega)
      rw [this]
      exact wrap_u8 (by omega)
    refine readsS_lift (v := .int .u8 s[i].toNat) (fun h k => reads_sindex Tryz.underlying9 hlt) ?_
    refine readsS_lift (v := .int .u8 (s[i].toNat / 16 : Nat)) (fun h k => by rw [reads_shr (by omega : ¬ (4 : Int) < 0), e1]) ?_
    refine readsS_lift (v := .int .u64 (s[i].toNat / 16 : Nat)) (fun h k => by rw [reads_conv_int Tryz.underlying5 Tryz.underlying121, wrap_u64 (by omega)]) ?_
    refine readsS_lift (v := .int .u8 s[i].toNat) (fun h k => reads_sindex Tryz.underlying9 hlt) ?_
    refine readsS_lift (v := .int .u8 (s[i].toNat % 16 : Nat)) (fun h k => by rw [reads_and, e2]) ?_
    refine readsS_lift (v := .int .u64 (s[i].toNat % 16 : Nat)) (fun h k => by rw [reads_conv_int Tryz.underlying5 Tryz.underlying121, wrap_u64 (by omega)]) ?_
    refine ⟨base_spec (B := 16) (by omega) (by omega) (by omega) fun h3 f3 => ?_, trivial⟩
    refine ⟨trivial, base_spec (B := 16) (by omega) (by omega) (by omega) fun h4 f4 => ?_, trivial⟩
    have s3 := f3.size
    have s4 := f4.size
    refine ⟨trivial, ?_⟩
    have hl2 : (baseM 16 (s[i].toNat / 16) ++ baseM 16 (s[i].toNat % 16)).length = 2 := by rw [hexM_eq]; rfl
    rw [reads_sadd (by rw [← List.length_append]; omega), hexM_eq]
    have f24 : Fm h2.size h2.size h2 h4 := f3.trans ⟨f4.size, fun b hb _ => f4.same b (by omega) (by omega)⟩
    refine ⟨wstr_spec (hsb.fm hs2 f24) (by omega) (by rw [flat_hex, List.length_take]; omega) (by rw [hexM_two]; omega) fun h5 v hsb5 f5 _ => ?_, trivial⟩
    have s5 := f5.size
    refine ⟨trivial, ?_⟩
    rw [reads_add, wrap_n1 _ (by omega)]
    refine ⟨s.length - (i + 1), by omega, i + 1, rfl, by omega, rfl, ?_, (f2.trans ⟨f24.size, fun b hb _ => f24.same b (by omega) (by omega)⟩).trans (f5.less (by omega)), by omega, by omega⟩
    rw [List.take_add_one, List.getElem?_eq_getElem hlt, List.flatMap_append]
    simpa using hsb5
  · have : i = s.length := by have := of_decide_eq_false hc; omega
    subst this
    rw [List.take_length] at hsb
    have fin : ∀ h6, Fm h.size h.size h h6 → Reads Tryz.prog (binS .add 9 true (str [34]) (str (s.flatMap hexM))) h6 fun t26 => Reads Tryz.prog (binS .add 9 true t26 (str [34])) h6 fun t27 => R t27 h6 := by
      intro h6 f6
      have := flat_hex s
      rw [reads_sadd (by rw [this]; simp; omega), reads_sadd (by rw [List.length_append, this]; simp; omega)]
      exact hk h6 f6
    cases hs0 : s with
    | nil =>
      subst hs0
      exact string_none (h0 rfl) (fin h2 f2)
    | cons c cs =>
      have hne : s.flatMap hexM ≠ [] := by
        intro e
        have := flat_hex s
        rw [e, hs0] at this
        simp at this
      refine string_spec hsb hne (by rw [flat_hex]; omega) fun h6 s6 e6 => ?_
      exact fin h6 (f2.trans ⟨by omega, fun b hb _ => e6 b (by omega)⟩)

/-! ### A number of a test -/
def numT (sg : Int) (m : Nat) (by_ : Bool) : Op := (if sg = 1 then 43 :: baseM 10 m else if sg = -1 then 45 :: baseM 10 m else baseM 10 m) ++ (if by_ then [99] else [])
theorem base10_len {m : Nat} (hm : m < 2 ^ 63) : (baseM 10 m).length ≤ 64 := by
  have := baseM_len (base := 10) (by omega) 63 m (by omega)
  omega
theorem numT_len {sg : Int} {m : Nat} {b : Bool} (hm : m < 2 ^ 63) : (numT sg m b).length ≤ 66 := by
  have := base10_len hm
  unfold numT
  rw [List.length_append]
  have h1 : (if b = true then [99] else ([] : Op)).length ≤ 1 := by split <;> simp
  split
  · simp only [List.length_cons]; omega
  · split
    · simp only [List.length_cons]; omega
    · omega
theorem sknum_spec {k m : Nat} {tx : Op} {sg : Int} {by_ : Bool} {av kv : Value} (hm : m < 2 ^ 63) (hk : ∀ h', Fm h.size h.size h h' → R (str (numT sg m by_)) h') : CallsH Tryz.prog 46 #[.agg (skL k tx sg m by_ av kv).toArray] h R E := by
  refine C46 ?_
  unfold S46
  refine new_rule fun h1 a1 => ?_
  have s1 := a1.size
  rw [Tryz.fa40_3, addr_add, pLoad_one (v := .int .i64 m) Tryz.agg2 (by rw [hcell_of a1.at_]; rfl)]
  refine num_spec hm fun h2 f2 => ?_
  have s2 := f2.size
  have b2 := (f2.same h.size (by omega) (by omega)).trans a1.at_
  have f12 : Fm h.size h.size h h2 := (Fm.al a1 (Nat.le_refl _)).trans ⟨f2.size, fun b hb _ => f2.same b (by omega) (by omega)⟩
  have hl := base10_len hm
  have hcells : (Value.agg (skL k tx sg m by_ av kv).toArray).cells = (skL k tx sg m by_ av kv).toArray := rfl
  rw [hcells] at b2
  refine Join1.intro (fun v h' => h' = h2 ∧ v = str (if sg = 1 then 43 :: baseM 10 m else if sg = -1 then 45 :: baseM 10 m else baseM 10 m)) ?_ ?_
  · rw [Tryz.fa40_2, addr_add, pLoad_one (v := .int .i64 sg) Tryz.agg3 (by rw [hcell_of b2]; rfl), reads_eq, boolV_bool]
    refine bcase_of (fun hc => ?_) (fun hc => ?_)
    · rw [reads_sadd (by simp; omega), if_pos (of_decide_eq_true hc)]
      exact ⟨rfl, rfl⟩
    · rw [if_neg (of_decide_eq_false hc), reads_eq, boolV_bool]
      refine bcase_of (fun hc => ?_) (fun hc => ?_)
      · rw [reads_sadd (by simp; omega), if_pos (of_decide_eq_true hc)]
        exact ⟨rfl, rfl⟩
      · rw [if_neg (of_decide_eq_false hc)]
        exact ⟨rfl, rfl⟩
  rintro _ h3 ⟨rfl, rfl⟩
  rw [Tryz.fa40_4, addr_add, pLoad_one (v := .bool by_) Tryz.agg4 (by rw [hcell_of b2]; rfl), boolV_bool]
  have hnl := numT_len (sg := sg) (b := false) hm
  unfold numT at hnl
  rw [List.length_append] at hnl
  simp only [Bool.false_eq_true, if_false, List.length_nil, Nat.add_zero] at hnl
  cases by_ with
  | true =>
    rw [bcase_true, reads_sadd (by simp only [List.length_cons, List.length_nil]; omega)]
    exact hk h3 f12
  | false =>
    rw [bcase_false]
    have := hk h3 f12
    unfold numT at this
    simpa using this

/-! ### Join -/
theorem join_spec {v : Value} {l : List Op} {sep : Op} (hb : IsOps h v l) (hl : l.length ≤ 100000) (hj : (Go.Lib.join l sep).length ≤ 140737488355328) (hk : ∀ h', Fm h.size h.size h h' → R (str (Go.Lib.join l sep)) h') : CallsH Tryz.prog 47 #[v, str sep] h R E := by
  intro w hw
  subst hw
  rcases hb with ⟨rfl, rfl⟩ | ⟨b, o, c, rfl, hc, hlt, hat⟩
  · refine Calls.mono (Tryz.strings_Join_none none 0 ⟨sep.toArray⟩ w) ?_
    rintro e w' ⟨rfl, rfl⟩
    exact ⟨⟨rfl, rfl, rfl⟩, hk _ (Fm.refl ..)⟩
  · have hmap : (l.map fun s => (⟨s.toArray⟩ : ByteArray)).map (·.data.toList) = l := by
      rw [List.map_map]
      have : ((fun x : ByteArray => x.data.toList) ∘ fun s : Op => (⟨s.toArray⟩ : ByteArray)) = id := by funext s; rfl
      rw [this, List.map_id]
    have := Tryz.strings_Join b o c (l.map fun s => ⟨s.toArray⟩) ⟨sep.toArray⟩ w (fun j x hj => by
      rw [List.getElem?_map] at hj
      obtain ⟨y, hy, rfl⟩ := Option.map_eq_some_iff.1 hj
      obtain ⟨hjl, rfl⟩ := List.getElem?_eq_some_iff.1 hy
      rw [cell_eq]
      exact hat j hjl) hlt (by rw [List.length_map]; omega) (by rw [List.length_map]; exact hc) (by rw [hmap]; exact hj)
    rw [List.length_map] at this
    refine Calls.mono this ?_
    rintro e w' ⟨rfl, hbel⟩
    rw [hmap]
    refine ⟨⟨hbel.os, hbel.tape, hbel.output⟩, hk _ ⟨?_, fun k hk _ => ?_⟩⟩
    · exact hbel.size
    · exact hbel.block k hk
end Rt
end Go.Proofs

set_option maxRecDepth 100000
namespace Go.Proofs
open Go.Vcg Go.Extern
namespace Rt
attribute [local congr] Reads.congr ReadsS.congr pLoad.congr pLoadS.congr pStore.congr Runs.congr CallsH.congr bcase.congr boolV.congr Stable.congr pAlloc.congr
variable {S : Glb} {n : Nat} {h : Heap} {R : Value → Heap → Prop} {E : List PanicEntry → Heap → Prop}

/-! ### A tree, written -/
def wordsM (k : Nat) (tx : Op) (sg : Int) (m : Nat) (b : Bool) (args : List Op) : List Op :=
  if k = 1 then [[97, 110, 100]] else if k = 2 then [[111, 114]] else if k = 3 then [[110, 111, 116]]
  else if k = 4 then [[110, 97, 109, 101], hexS tx] else if k = 5 then [[116, 121, 112, 101], hexS tx] else if k = 8 then [[110, 101, 119, 101, 114], hexS tx]
  else if k = 6 then [[115, 105, 122, 101], numT sg m b] else if k = 7 then [[108, 105, 110, 107, 115], numT sg m b]
  else if k = 11 then [101, 120, 101, 99] :: args.map hexS else []
def inPar (l : List Op) : Op := 40 :: (Go.Lib.join l [32] ++ [41])
mutual
def writeU : U → Op
  | .node k tx sg m b args kids => if k = 9 then [112, 114, 117, 110, 101] else if k = 10 then [112, 114, 105, 110, 116] else inPar (wordsM k tx sg m.toNat b args ++ writeL kids)
def writeL : List U → List Op
  | [] => []
  | t :: ts => writeU t :: writeL ts
end
theorem writeL_map : ∀ ts : List U, writeL ts = ts.map writeU
  | [] => by simp [writeL]
  | t :: ts => by simp [writeL, writeL_map ts]
mutual
/-- how many things there are -/
def szU : U → Nat
  | .node _ _ _ _ _ _ ts => szK ts + 1
def szK : List U → Nat
  | [] => 0
  | t :: ts => szU t + szK ts
end
theorem szU_pos (t : U) : 1 ≤ szU t := by cases t; simp [szU]
theorem szK_len : ∀ ts : List U, ts.length ≤ szK ts
  | [] => by simp
  | t :: ts => by have := szU_pos t; have := szK_len ts; simp only [szK, List.length_cons]; omega
theorem szK_get : ∀ {ts : List U} {i : Nat} (hi : i < ts.length), szU ts[i] ≤ szK ts
  | t :: ts, 0, _ => by simp only [szK, List.getElem_cons_zero]; omega
  | t :: ts, i + 1, hi => by
    have := szK_get (ts := ts) (i := i) (by simpa using hi)
    simp only [szK, List.getElem_cons_succ]; omega
mutual
/-- what Parse makes: strings that are operands, few of them, whole numbers, texts that are not too long -/
def okU : U → Prop
  | .node _ tx _ m _ args ts => tx.length ≤ 1024 ∧ (∃ x : Nat, m = x ∧ x < 2 ^ 63) ∧ args.length ≤ 1000 ∧ (∀ a ∈ args, a.length ≤ 1024) ∧ ts.length ≤ 1000 ∧ okL ts
def okL : List U → Prop
  | [] => True
  | t :: ts => okU t ∧ okL ts
end
theorem okL_get : ∀ {ts : List U} {i : Nat} (hi : i < ts.length), okL ts → okU ts[i]
  | t :: ts, 0, _, h => by simp only [okL] at h; exact h.1
  | t :: ts, i + 1, hi, h => by simp only [okL] at h; simpa using okL_get (ts := ts) (i := i) (by simpa using hi) h.2
theorem wordsM_len {k m : Nat} {tx : Op} {sg : Int} {b : Bool} {args : List Op} (ha : args.length ≤ 1000) : (wordsM k tx sg m b args).length ≤ 1001 := by
  unfold wordsM
  repeat' split
  all_goals simp
  omega
theorem join_le {l : List Op} {x : Op} {sep : Op} (hx : x ∈ l) : x.length ≤ (Go.Lib.join l sep).length := by
  unfold Go.Lib.join
  induction l with
  | nil => cases hx
  | cons y l ih =>
    cases l with
    | nil =>
      rcases List.mem_cons.1 hx with rfl | h
      · simp [List.intercalate]
      · cases h
    | cons z l =>
      have e : sep.intercalate (y :: z :: l) = y ++ sep ++ sep.intercalate (z :: l) := by simp [List.intercalate, List.intersperse]
      rw [e, List.length_append, List.length_append]
      rcases List.mem_cons.1 hx with rfl | h
      · omega
      · have := ih h; omega
theorem inPar_len {l : List Op} : (inPar l).length = (Go.Lib.join l [32]).length + 2 := by unfold inPar; simp
theorem par_spec {l : List Op} {v : Value} {h0 : Heap} (f : Fm h0.size h0.size h0 h) (hb : IsOps h v l) (hl : l.length ≤ 100000) (hlen : (inPar l).length ≤ 100000000) (hk : ∀ h', Fm h0.size h0.size h0 h' → R (str (inPar l)) h') :
    CallsH Tryz.prog 47 #[v, str [32]] h (fun t99 h36 => Reads Tryz.prog (binS .add 9 true (str [40]) t99) h36 fun t100 => Reads Tryz.prog (binS .add 9 true t100 (str [41])) h36 fun t101 => R t101 h36) E := by
  rw [inPar_len] at hlen
  refine join_spec hb hl (by omega) fun h' f' => ?_
  rw [reads_sadd (by simp only [List.length_cons, List.length_nil]; omega), reads_sadd (by rw [List.length_append]; simp only [List.length_cons, List.length_nil]; omega)]
  have := f.size
  exact hk h' (f.trans ⟨f'.size, fun b hb _ => f'.same b (by omega) (by omega)⟩)

theorem push_row1 {v : Value} {l : List Op} {y : Op} {h0 : Heap} {K : Value → Heap → Prop} (f : Fm h0.size h0.size h0 h) (hn0 : h0.size + 1 ≤ h.size) (b : SRow h (h0.size + 1) v l) (hlen : l.length ≤ 100000)
    (hK : ∀ v' h', SRow h' (h0.size + 1) v' (l ++ [y]) → Fm h0.size h0.size h0 h' → h0.size + 1 ≤ h'.size → (h'[h0.size]? = h[h0.size]?) → K v' h') :
    Runs Tryz.prog (vS (Instr.buildSlice 22 1 #[(0, str y)])) h (fun s h1 => Runs Tryz.prog (builtin .append #[22, 22] 22 #[false, false] #[v, s]) h1 K E) E := by
  refine push_str1 rfl b hn0 (by omega) fun v' h' r' f' => ?_
  have s := (f' h0.size).size
  refine hK v' h' r' (f.trans ((f' h0.size).less (by omega))) (by omega) ((f' (h0.size + 1)).same _ (by omega) (by omega))


theorem write_spec : ∀ (m : Nat) {h : Heap} {Q : Nat → Prop} {t : U} {vs : List Value} {R : Value → Heap → Prop} {E : List PanicEntry → Heap → Prop}, szU t ≤ m → okU t → (writeU t).length ≤ 100000000 → IsSk h Q t vs →
    (∀ h', Fm h.size h.size h h' → R (str (writeU t)) h') → CallsH Tryz.prog 26 #[.agg vs.toArray] h R E := by
  intro m
  induction m with
  | zero => intro h Q t vs R E hm; have := szU_pos t; omega
  | succ m ih =>
    intro h Q t vs R E hm hok hlen ht hk
    cases t with
    | node k tx sg nm by_ args ts =>
    simp only [okU] at hok
    obtain ⟨htx, ⟨num, rfl, hnum⟩, hal, has, htl, hts⟩ := hok
    simp only [IsSk] at ht
    obtain ⟨av, kv, rfl, hargs, hkids⟩ := ht
    simp only [writeU, Int.toNat_natCast] at hlen hk
    refine C26 ?_
    unfold S26
    refine new_rule fun h1 a1 => ?_
    have s1 := a1.size
    have b1 : h1[h.size]? = some (.cells (skL k tx sg num by_ av kv).toArray 40 (0, 0)) := a1.at_
    have f1 : Fm h.size h.size h h1 := Fm.al a1 (Nat.le_refl _)
    have keepS : ∀ {h'}, Fm h.size h.size h h' → IsOps h' av args := fun f => (hargs.frame (Q' := fun _ => True) fun b _ hb => ⟨trivial, f.same b hb (by omega)⟩).is
    refine Join1.intro (fun v h' => k ≠ 9 ∧ k ≠ 10 ∧ SRow h' (h.size + 1) v (wordsM k tx sg num by_ args) ∧ Fm h.size h.size h h' ∧ h.size + 1 ≤ h'.size ∧ h'[h.size]? = h1[h.size]?) ?_ ?_
    · rw [Tryz.fa40_0, addr_add, pLoad_one (v := .int .i64 k) Tryz.agg3 (by rw [hcell_of b1]; rfl)]
      have neq : ∀ j : Nat, decide (((k : Nat) : Int) = (j : Int)) = decide (k = j) := fun j => by rw [dec_nn_eq]
      have q9 := neq 9; have q10 := neq 10; have q1 := neq 1; have q2 := neq 2; have q3 := neq 3; have q4 := neq 4; have q5 := neq 5; have q6 := neq 6; have q7 := neq 7; have q8 := neq 8; have q11 := neq 11
      simp only [Int.cast_ofNat_Int] at q1 q2 q3 q4 q5 q6 q7 q8 q9 q10 q11
      have one : ∀ (y : Op), k ≠ 9 → k ≠ 10 → wordsM k tx sg num by_ args = [y] → Runs Tryz.prog (vS (Instr.buildSlice 22 1 #[(0, str y)])) h1 (fun s h2 => Runs Tryz.prog (builtin .append #[22, 22] 22 #[false, false] #[.slice none 0 0, s]) h2
          (fun v h' => k ≠ 9 ∧ k ≠ 10 ∧ SRow h' (h.size + 1) v (wordsM k tx sg num by_ args) ∧ Fm h.size h.size h h' ∧ h.size + 1 ≤ h'.size ∧ h'[h.size]? = h1[h.size]?) E) E := by
        intro y n9 n10 hw
        refine push_row1 f1 (by omega) SRow.nil (by simp) fun v' h' r' f' s' e' => ?_
        exact ⟨n9, n10, by rw [hw]; exact r', f', s', e'⟩
      have two : ∀ (y z : Op) (h2 : Heap), Fm h1.size h1.size h1 h2 → k ≠ 9 → k ≠ 10 → wordsM k tx sg num by_ args = [y, z] → Runs Tryz.prog (vS (Instr.buildSlice 22 2 #[(0, str y), (1, str z)])) h2 (fun s h2 => Runs Tryz.prog (builtin .append #[22, 22] 22 #[false, false] #[.slice none 0 0, s]) h2
          (fun v h' => k ≠ 9 ∧ k ≠ 10 ∧ SRow h' (h.size + 1) v (wordsM k tx sg num by_ args) ∧ Fm h.size h.size h h' ∧ h.size + 1 ≤ h'.size ∧ h'[h.size]? = h1[h.size]?) E) E := by
        intro y z h2 f2 n9 n10 hw
        have s2 := f2.size
        refine push_str2 rfl rfl fun v' h' r' f' => ?_
        have s' := (f' h2.size).size
        refine ⟨n9, n10, ?_, (f1.trans ⟨f2.size, fun b hb _ => f2.same b (by omega) (by omega)⟩).trans ((f' h.size).less (by omega)), by omega, ((f' h2.size).same _ (by omega) (by omega)).trans (f2.same _ (by omega) (by omega))⟩
        rw [hw]
        obtain ⟨x1, x2⟩ := r'
        refine ⟨x1, x2.imp id ?_⟩
        rintro ⟨g, cap, cur, e1, e2, e3⟩
        exact ⟨g, cap, cur, e1, by omega, e3⟩
      rw [reads_eq, boolV_bool, q9]
      refine bcase_of (fun hc => ?_) (fun hc => ?_)
      · have hc := of_decide_eq_true hc
        rw [if_pos hc] at hk
        exact hk h1 f1
      have n9 := of_decide_eq_false hc
      rw [if_neg n9] at hk
      rw [reads_eq, boolV_bool, q10]
      refine bcase_of (fun hc => ?_) (fun hc => ?_)
      · have hc := of_decide_eq_true hc
        rw [if_pos hc] at hk
        exact hk h1 f1
      have n10 := of_decide_eq_false hc
      rw [reads_eq, boolV_bool, q1]
      refine bcase_of (fun hc => one _ n9 n10 (by unfold wordsM; rw [if_pos (of_decide_eq_true hc)])) (fun hc => ?_)
      have n1 := of_decide_eq_false hc
      rw [reads_eq, boolV_bool, q2]
      refine bcase_of (fun hc => one _ n9 n10 (by unfold wordsM; rw [if_neg n1, if_pos (of_decide_eq_true hc)])) (fun hc => ?_)
      have n2 := of_decide_eq_false hc
      rw [reads_eq, boolV_bool, q3]
      refine bcase_of (fun hc => one _ n9 n10 (by unfold wordsM; rw [if_neg n1, if_neg n2, if_pos (of_decide_eq_true hc)])) (fun hc => ?_)
      have n3 := of_decide_eq_false hc
      have ldt : ∀ {K : Value → Prop}, pLoad Tryz.prog 9 (.pointer (some ⟨h.size, 1, none⟩)) h1 K = K (str tx) := fun {K} => pLoad_one Tryz.agg9 (by rw [hcell_of b1]; rfl)
      rw [reads_eq, boolV_bool, q4]
      refine bcase_of (fun hc => ?_) (fun hc => ?_)
      · rw [Tryz.fa40_1, addr_add, Nat.zero_add, ldt]
        exact hex_spec htx fun h2 f2 => two _ _ h2 f2 n9 n10 (by unfold wordsM; rw [if_neg n1, if_neg n2, if_neg n3, if_pos (of_decide_eq_true hc)])
      have n4 := of_decide_eq_false hc
      rw [reads_eq, boolV_bool, q5]
      refine bcase_of (fun hc => ?_) (fun hc => ?_)
      · rw [Tryz.fa40_1, addr_add, Nat.zero_add, ldt]
        exact hex_spec htx fun h2 f2 => two _ _ h2 f2 n9 n10 (by unfold wordsM; rw [if_neg n1, if_neg n2, if_neg n3, if_neg n4, if_pos (of_decide_eq_true hc)])
      have n5 := of_decide_eq_false hc
      rw [reads_eq, boolV_bool, q8]
      refine bcase_of (fun hc => ?_) (fun hc => ?_)
      · rw [Tryz.fa40_1, addr_add, Nat.zero_add, ldt]
        exact hex_spec htx fun h2 f2 => two _ _ h2 f2 n9 n10 (by unfold wordsM; rw [if_neg n1, if_neg n2, if_neg n3, if_neg n4, if_neg n5, if_pos (of_decide_eq_true hc)])
      have n8 := of_decide_eq_false hc
      rw [reads_eq, boolV_bool, q6]
      refine bcase_of (fun hc => ?_) (fun hc => ?_)
      · refine load_all b1 Tryz.agg40 ?_
        exact sknum_spec hnum fun h2 f2 => two _ _ h2 f2 n9 n10 (by unfold wordsM; rw [if_neg n1, if_neg n2, if_neg n3, if_neg n4, if_neg n5, if_neg n8, if_pos (of_decide_eq_true hc)])
      have n6 := of_decide_eq_false hc
      rw [reads_eq, boolV_bool, q7]
      refine bcase_of (fun hc => ?_) (fun hc => ?_)
      · refine load_all b1 Tryz.agg40 ?_
        exact sknum_spec hnum fun h2 f2 => two _ _ h2 f2 n9 n10 (by unfold wordsM; rw [if_neg n1, if_neg n2, if_neg n3, if_neg n4, if_neg n5, if_neg n8, if_neg n6, if_pos (of_decide_eq_true hc)])
      have n7 := of_decide_eq_false hc
      rw [reads_eq, boolV_bool, q11]
      refine bcase_of (fun hc => ?_) (fun hc => ?_)
      · have hw : wordsM k tx sg num by_ args = [101, 120, 101, 99] :: args.map hexS := by unfold wordsM; rw [if_neg n1, if_neg n2, if_neg n3, if_neg n4, if_neg n5, if_neg n8, if_neg n6, if_neg n7, if_pos (of_decide_eq_true hc)]
        refine push_row1 f1 (by omega) SRow.nil (by simp) fun v2 h2 r2 f2 s2 e2 => ?_
        rw [Tryz.fa40_5, addr_add, pLoad_one (v := av) Tryz.agg22 (by rw [hcell_of (e2.trans b1)]; rfl), reads_olen (keepS f2)]
        refine Loop2.fuel (fun kk a b h' => ∃ i : Nat, b = .int .i64 i ∧ i ≤ args.length ∧ kk = args.length - i ∧ SRow h' (h.size + 1) a ([101, 120, 101, 99] :: (args.take i).map hexS) ∧ Fm h.size h.size h h' ∧ h.size + 1 ≤ h'.size ∧ h'[h.size]? = h1[h.size]?) (n := args.length)
          ⟨0, rfl, by omega, by omega, r2, f2, s2, e2⟩ fun kk a b h3 hi => ?_
        obtain ⟨i, rfl, hil, rfl, r3, f3, s3, e3⟩ := hi
        rw [reads_lt, dec_nn_lt, boolV_bool]
        refine bcase_of (fun hc => ?_) (fun hc => ?_)
        · have hlt := of_decide_eq_true hc
          refine ops_load (keepS f3) hlt ?_
          refine hex_spec (has _ (List.getElem_mem hlt)) fun h4 f4 => ?_
          have s4 := f4.size
          refine push_row1 (f3.trans ⟨f4.size, fun b hb _ => f4.same b (by omega) (by omega)⟩) (by omega) (r3.frame fun b _ hb => f4.same b hb (by omega)) (by simp; omega) fun v5 h5 r5 f5 s5 e5 => ?_
          rw [reads_add, wrap_n1 _ (by omega)]
          refine ⟨args.length - (i + 1), by omega, i + 1, rfl, by omega, rfl, ?_, f5, s5, e5.trans ((f4.same _ (by omega) (by omega)).trans e3)⟩
          rw [List.take_add_one, List.getElem?_eq_getElem hlt, List.map_append]
          exact r5
        · have : i = args.length := by have := of_decide_eq_false hc; omega
          subst this
          rw [List.take_length] at r3
          exact ⟨n9, n10, by rw [hw]; exact r3, f3, s3, e3⟩
      · have n11 := of_decide_eq_false hc
        have hw : wordsM k tx sg num by_ args = [] := by unfold wordsM; rw [if_neg n1, if_neg n2, if_neg n3, if_neg n4, if_neg n5, if_neg n8, if_neg n6, if_neg n7, if_neg n11]
        exact ⟨n9, n10, by rw [hw]; exact SRow.nil, f1, by omega, rfl⟩
    rintro v h2 ⟨n9, n10, r2, f2, s2, e2⟩
    rw [if_neg n9, if_neg n10] at hlen
    rw [if_neg n9, if_neg n10] at hk
    have hwl := wordsM_len (k := k) (m := num) (tx := tx) (sg := sg) (b := by_) hal
    have hkv : ∃ q c, kv = .slice q ts.length c := by
      rcases hkids with ⟨rfl, rfl⟩ | ⟨b, cap, cur, _, rfl, _⟩
      · exact ⟨_, _, rfl⟩
      · exact ⟨_, _, rfl⟩
    rw [Tryz.fa40_6, addr_add, pLoad_one (v := kv) Tryz.agg38 (by rw [hcell_of (e2.trans b1)]; rfl)]
    obtain ⟨q, cc, rfl⟩ := hkv
    rw [reads_rlen Tryz.underlying38]
    refine Loop2.fuel (fun kk a b h' => ∃ i : Nat, b = .int .i64 i ∧ i ≤ ts.length ∧ kk = ts.length - i ∧ SRow h' (h.size + 1) a (wordsM k tx sg num by_ args ++ writeL (ts.take i)) ∧ Fm h.size h.size h h' ∧ h.size + 1 ≤ h'.size) (n := ts.length)
      ⟨0, rfl, by omega, by omega, by simpa [writeL] using r2, f2, s2⟩ fun kk a b h3 hi => ?_
    obtain ⟨i, rfl, hil, rfl, r3, f3, s3⟩ := hi
    rw [reads_lt, dec_nn_lt, boolV_bool]
    refine bcase_of (fun hc => ?_) (fun hc => ?_)
    · have hlt := of_decide_eq_true hc
      rcases hkids with ⟨rfl, _⟩ | ⟨bk, cap, cur, hQ, hkv, hcap, hcur, hbk, hrow⟩
      · simp at hlt
      cases hkv
      have hbk3 := (f3.same bk (at_lt hbk) (by have := at_lt hbk; omega)).trans hbk
      rw [reads_idxRow Tryz.underlying38 Tryz.size40 hlt, addr_add, Nat.zero_add]
      refine load_row hbk3 Tryz.agg40 (by omega) ?_
      have htk : IsSk h Q ts[i] ((cur.toList.drop (i * 7)).take 7) := by
        have := hrow.get i hlt
        rwa [List.drop_take, List.take_take, Nat.min_eq_left (by omega)] at this
      refine alloc_rule Tryz.zero40 fun h4 a4 => ?_
      have s4 := a4.size
      refine storeFull a4.at_ (xs := ((cur.toList.drop (i * 7)).take 7).toArray) (by rw [Tryz.size40]; simp only [List.size_toArray, htk.len]) (by simp only [List.size_toArray, htk.len]; rfl) (by simpa using htk.flat) fun h5 u5 => ?_
      have s5 := u5.size
      refine load_all u5.same (by rw [Tryz.agg40]; simp only [List.size_toArray, htk.len]) ?_
      have e5 : ∀ b, b < h3.size → h5[b]? = h3[b]? := fun b hb => (u5.other b (by omega)).trans (a4.old b hb)
      have f5 : Fm h.size h.size h h5 := f3.trans ⟨by omega, fun b hb _ => e5 b (by omega)⟩
      have htk5 : IsSk h5 (fun b => b < h.size) ts[i] ((cur.toList.drop (i * 7)).take 7) := htk.frame fun b hb hlt => ⟨hlt, f5.same b hlt (by omega)⟩
      have hsz : szU ts[i] ≤ szK ts := szK_get hlt
      have hmem : writeU ts[i] ∈ wordsM k tx sg num by_ args ++ writeL ts := by
        rw [writeL_map]
        exact List.mem_append_right _ (List.mem_map_of_mem (List.getElem_mem hlt))
      refine ih (by simp only [szU] at hm; omega) (okL_get hlt hts) (by have := join_le (sep := [32]) hmem; rw [inPar_len] at hlen; omega) htk5 fun h6 f6 => ?_
      have s6 := f6.size
      have e6 : ∀ b, b < h5.size → h6[b]? = h5[b]? := fun b hb => f6.same b hb (by omega)
      have hwk : (writeL (ts.take i)).length ≤ 1000 := by rw [writeL_map, List.length_map, List.length_take]; omega
      refine push_row1 (f5.trans ⟨f6.size, fun b hb _ => e6 b (by omega)⟩) (by omega) (r3.frame fun b _ hb => (e6 b (by omega)).trans (e5 b hb)) (by rw [List.length_append]; omega) fun v7 h7 r7 f7 s7 _ => ?_
      rw [reads_add, wrap_n1 _ (by omega)]
      refine ⟨ts.length - (i + 1), by omega, i + 1, rfl, by omega, rfl, ?_, f7, s7⟩
      have : writeL (ts.take (i + 1)) = writeL (ts.take i) ++ [writeU ts[i]] := by
        rw [writeL_map, writeL_map, List.take_add_one, List.getElem?_eq_getElem hlt, List.map_append]
        rfl
      rw [this, ← List.append_assoc]
      exact r7
    · have : i = ts.length := by have := of_decide_eq_false hc; omega
      subst this
      rw [List.take_length] at r3
      have hwk : (writeL ts).length ≤ 1000 := by rw [writeL_map, List.length_map]; exact htl
      exact par_spec f3 r3.is.is (by rw [List.length_append]; omega) hlen hk
end Rt
end Go.Proofs
