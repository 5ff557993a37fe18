/- A part of the proofs over this seat: Quo. -/
import Derived.Test.YthlncmkeccgfeaaGreatDoorOne
set_option linter.unusedVariables false
set_option linter.unusedSimpArgs false
set_option maxRecDepth 100000
namespace Go.Proofs
open Go.Vcg
namespace Rt
attribute [local congr] Reads.congr ReadsS.congr pLoad.congr pLoadS.congr pStore.congr Runs.congr CallsH.congr bcase.congr boolV.congr Stable.congr pAlloc.congr
variable {S : Glb} {n : Nat} {h : Heap} {r : Nat} {bv : Value} {l : List UInt8} {p : Nat} {ext : Bool} {op gr : Nat} {R : Value → Heap → Prop} {E : List PanicEntry → Heap → Prop}

def bval (c : UInt8) : Value := .int .u8 c.toNat
/-- a row of bytes that the call owns -/
def ByteRow (h : Heap) (n : Nat) (v : Value) (l : List UInt8) : Prop := Owns h n 5 1 v l.length (l.map bval)
theorem ByteRow.is {v : Value} (b : ByteRow h n v l) : IsBytes h v l := by
  obtain ⟨hl, ho⟩ := b
  rcases ho with ⟨rfl, hz⟩ | ⟨g, cap, cur, rfl, e2, e3, e4, e5, e6, e7⟩
  · exact .inl ⟨rfl, List.length_eq_zero_iff.1 hz⟩
  · refine .inr ⟨g, 0, cap, rfl, e4, fun i hi => ?_⟩
    rw [hcell_of e3]
    simp only [Nat.zero_add, Nat.mul_one] at *
    have : (cur.toList.take l.length)[i]? = (l.map bval)[i]? := by rw [e7]
    rw [List.getElem?_take, if_pos hi] at this
    simpa [hi, bval] using this
theorem push_byte {v : Value} {c : UInt8} {K : Value → Heap → Prop} (b : ByteRow h n v l) (hn : n ≤ h.size) (hlen : l.length ≤ 1000000000) (hK : ∀ v' h', ByteRow h' n v' (l ++ [c]) → (∀ r, Fm n r h h') → K v' h') :
    Runs Tryz.prog (vS (Instr.buildSlice 29 1 #[(0, .int .u8 c.toNat)])) h (fun s h1 => Runs Tryz.prog (builtin .append #[29, 29] 29 #[false, false] #[v, s]) h1 K E) E := by
  refine slice1_rule Tryz.info5 Tryz.underlying29 rfl (by omega) (by omega) fun h1 a1 => ?_
  have s1 := a1.size
  have ho : Owns h1 n 5 1 v l.length (l.map bval) := by
    obtain ⟨hl, ho⟩ := b
    refine ⟨hl, ho.imp id ?_⟩
    rintro ⟨g, cap, cur, e1, e2, e3, e4⟩
    exact ⟨g, cap, cur, e1, e2, (a1.old g (at_lt e3)).trans e3, e4⟩
  refine runs_append' (size := 1) (bytes := 1) (news := [bval c]) Tryz.info5 Tryz.underlying29 rfl (by omega) ho rfl ?_ ?_ (by simp [maxLen]; omega) (by omega) (by omega) fun v' h2 ho' hg hnil hat => ?_
  · intro j u hj
    rw [addr_add, Nat.zero_add, hcell_of a1.at_]
    simpa [Value.cells, bval] using hj
  · intro u hu
    simp only [List.mem_cons, List.not_mem_nil, or_false] at hu
    subst hu
    rfl
  · refine hK v' h2 ?_ fun r => ?_
    · unfold ByteRow
      simpa using ho'
    · refine ⟨by have := hg.size; omega, fun k hk _ => ?_⟩
      rw [hg.block k (by omega) ?_, a1.old k (by omega)]
      intro e
      rcases ho.2 with ⟨rfl, _⟩ | ⟨g, cap, cur, rfl, e2, _⟩
      · cases e
      · have : k = g := by simpa [Value.ownBlock] using e
        omega

def moreSigns : List UInt8 := [40, 41, 43, 63, 123, 125, 124]
def qByte (ext : Bool) (c : UInt8) : List UInt8 :=
  if c = 10 then [92, 110] else if basSigns.contains c then [92, c] else if ext && moreSigns.contains c then [92, c] else [c]
def quoteM (s : List UInt8) (ext : Bool) : List UInt8 := s.flatMap (qByte ext)
theorem qByte_len (c : UInt8) : (qByte ext c).length ≤ 2 := by
  unfold qByte
  split
  · simp
  · split
    · simp
    · split <;> simp
theorem quoteM_len : ∀ (s : List UInt8), (quoteM s ext).length ≤ 2 * s.length
  | [] => by simp [quoteM]
  | c :: s => by
    have := quoteM_len s
    have := qByte_len (ext := ext) c
    simp only [quoteM, List.flatMap_cons, List.length_append, List.length_cons] at *
    omega

theorem quote_spec {s : List UInt8} (hs : s.length ≤ 10000000) (hk : ∀ h', Fm h.size h.size h h' → R (str (quoteM s ext)) h') : CallsH Tryz.prog 9 #[str s, .bool ext] h R E := by
  refine C9 ?_
  unfold S9
  rw [reads_slen Tryz.underlying9]
  refine Loop2.fuel (fun k v a h' => ∃ i, i ≤ s.length ∧ k = s.length - i ∧ a = .int .i64 i ∧ Fm h.size h.size h h' ∧ ByteRow h' h.size v (quoteM (s.take i) ext)) (n := s.length)
    ⟨0, by omega, by simp, rfl, Fm.refl .., by simp [quoteM, ByteRow, Owns.nil]⟩ fun k v a h1 hi => ?_
  obtain ⟨i, hi, rfl, rfl, f1, hrow⟩ := hi
  have s1 := f1.size
  have hql := quoteM_len (ext := ext) (s.take i)
  have htl : (s.take i).length ≤ s.length := by simp; omega
  rw [reads_lt, boolV_bool]
  refine bcase_of (fun hc => ?_) (fun hc => ?_)
  · have hlt : i < s.length := by have := of_decide_eq_true hc; omega
    have hq : quoteM (s.take (i + 1)) ext = quoteM (s.take i) ext ++ qByte ext s[i] := by
      unfold quoteM
      rw [List.take_add_one, List.getElem?_eq_getElem hlt, List.flatMap_append]
      simp
    have next : ∀ {v' : Value} {h' : Heap}, (∀ r, Fm h.size r h1 h') → ByteRow h' h.size v' (quoteM (s.take i) ext ++ qByte ext s[i]) →
        Reads Tryz.prog (binS .add 3 true (.int .i64 i) (.int .i64 1)) h' fun t36 => ∃ j, j < s.length - i ∧ ∃ i, i ≤ s.length ∧ j = s.length - i ∧ t36 = .int .i64 i ∧ Fm h.size h.size h h' ∧ ByteRow h' h.size v' (quoteM (s.take i) ext) := by
      intro v' h' f hr
      rw [reads_add, wrap_n1 _ (by omega)]
      exact ⟨s.length - (i + 1), by omega, i + 1, by omega, rfl, rfl, f1.trans (f h.size), by rw [hq]; exact hr⟩
    rw [reads_sindex Tryz.underlying9 hlt, show (Value.int IntKind.u8 10) = .int .u8 ((10 : UInt8).toNat : Int) from rfl, reads_eq, dec_u8_eq, boolV_bool]
    have two : ∀ (c : UInt8), qByte ext s[i] = [92, c] → Runs Tryz.prog (vS (Instr.buildSlice 29 1 #[(0, .int .u8 92)])) h1 (fun t30 h2 => Runs Tryz.prog (builtin .append #[29, 29] 29 #[false, false] #[v, t30]) h2 (fun t31 h3 =>
        Runs Tryz.prog (vS (Instr.buildSlice 29 1 #[(0, .int .u8 c.toNat)])) h3 (fun t34 h4 => Runs Tryz.prog (builtin .append #[29, 29] 29 #[false, false] #[t31, t34]) h4 (fun t35 h5 =>
        Reads Tryz.prog (binS .add 3 true (.int .i64 i) (.int .i64 1)) h5 fun t36 => ∃ j, j < s.length - i ∧ ∃ i, i ≤ s.length ∧ j = s.length - i ∧ t36 = .int .i64 i ∧ Fm h.size h.size h h5 ∧ ByteRow h5 h.size t35 (quoteM (s.take i) ext)) E) E) E) E := by
      intro c hc
      refine push_byte (c := 92) hrow s1 (by omega) fun v2 h2 hr2 hf2 => ?_
      refine push_byte (c := c) hr2 (by have := (hf2 0).size; omega) (by simp; omega) fun v3 h3 hr3 hf3 => ?_
      refine next (fun r => (hf2 r).trans (hf3 r)) ?_
      rw [hc]
      simpa using hr3
    have one : qByte ext s[i] = [s[i]] → Runs Tryz.prog (vS (Instr.buildSlice 29 1 #[(0, .int .u8 s[i].toNat)])) h1 (fun t30 h2 => Runs Tryz.prog (builtin .append #[29, 29] 29 #[false, false] #[v, t30]) h2 (fun t35 h5 =>
        Reads Tryz.prog (binS .add 3 true (.int .i64 i) (.int .i64 1)) h5 fun t36 => ∃ j, j < s.length - i ∧ ∃ i, i ≤ s.length ∧ j = s.length - i ∧ t36 = .int .i64 i ∧ Fm h.size h.size h h5 ∧ ByteRow h5 h.size t35 (quoteM (s.take i) ext)) E) E := by
      intro hc
      refine push_byte (c := s[i]) hrow s1 (by omega) fun v2 h2 hr2 hf2 => next hf2 ?_
      rw [hc]
      exact hr2
    refine bcase_of (fun h10 => ?_) (fun h10 => ?_)
    · have h10 := of_decide_eq_true h10
      exact two 110 (by simp [qByte, h10])
    · have h10 := of_decide_eq_false h10
      refine sindex_spec ?_
      rw [reads_ge, index_ge, boolV_bool]
      refine bcase_of (fun hb => ?_) (fun hb => ?_)
      · exact two s[i] (by simp only [qByte, h10, if_false]; rw [if_pos (show basSigns.contains s[i] = true from hb)])
      rw [boolV_bool]
      refine bcase_of (fun he => ?_) (fun he => ?_)
      · refine sindex_spec ?_
        rw [reads_ge, index_ge, boolV_bool]
        refine bcase_of (fun hm => ?_) (fun hm => ?_)
        · exact two s[i] (by simp only [qByte, h10, if_false]; rw [if_neg (fun e => by rw [show basSigns.contains s[i] = false from hb] at e; cases e), if_pos (by rw [he]; exact hm)])
        · exact one (by simp only [qByte, h10, if_false]; rw [if_neg (fun e => by rw [show basSigns.contains s[i] = false from hb] at e; cases e), if_neg (by rw [he, Bool.true_and]; exact fun e => by rw [show moreSigns.contains s[i] = false from hm] at e; cases e)])
      · exact one (by simp only [qByte, h10, if_false]; rw [if_neg (fun e => by rw [show basSigns.contains s[i] = false from hb] at e; cases e), if_neg (by simp [he])])
  · have hil : i = s.length := by have := of_decide_eq_false hc; omega
    subst hil
    rw [List.take_length] at hrow
    rw [reads_bstring hrow.is Tryz.underlying29 Tryz.underlying5 Tryz.underlying9]
    exact hk h1 f1
end Rt
end Go.Proofs
