/- A part of the proofs over this seat: Prs2. -/
import Derived.Test.YthlncmkeccgfeaaGreatDoorPrs
set_option linter.unusedVariables false
set_option linter.unusedSimpArgs false
set_option maxRecDepth 100000
namespace Go.Proofs
open Go.Vcg
namespace Rt
attribute [local congr] Reads.congr ReadsS.congr pLoad.congr pLoadS.congr pStore.congr Runs.congr CallsH.congr bcase.congr boolV.congr Stable.congr pAlloc.congr
variable {S : Glb} {n : Nat} {h : Heap} {r : Nat} {bv : Value} {l : List UInt8} {p : Nat} {ext : Bool} {op gr : Nat} {R : Value → Heap → Prop} {E : List PanicEntry → Heap → Prop}

theorem look_mem : ∀ {fr : Fr} {t : Nat} {v : Value}, Vcg.look fr t = some v → (t, v) ∈ fr
  | [], _, _, h => by cases h
  | (d, u) :: fr, t, v, h => by
    simp only [Vcg.look] at h
    split at h
    · rename_i hb
      have : d = t := Nat.eq_of_beq_eq_true hb
      cases h
      subst this
      exact List.mem_cons_self
    · exact List.mem_cons_of_mem _ (look_mem h)
theorem agrees_of {D : List Deferred} {n : Nat} {a : Act} {fr : Fr} (hd : a.defers = D) (hs : a.tmps.size = n) (h : ∀ q ∈ fr, a.tmps[q.1]? = some q.2) : Agrees D n a fr :=
  ⟨hd, hs, fun t v hl => h (t, v) (look_mem hl)⟩

def ops11D : Array Oper := #[
  { dst := some 20, op := .makeFunc (.func 29) #[] #[.tmp 4, .tmp 5], type := 1, pos := "retext.go:88", after := #[], guard := none },
  { dst := none, op := .defer { callee := .value (.tmp 20), args := #[], argTypes := #[] }, type := 0, pos := "retext.go:88", after := #[{ on := 0, ground := .data }], guard := none }]
theorem c11D_eq : c11D = .region 4 ops11D false := by kernel_rfl
theorem defer_wp {Q : Exit → Act → World → Prop} {a : Act} {w : World} {x y : Value} (h4 : a.tmps[4]? = some x) (h5 : a.tmps[5]? = some y) (hs : 20 < a.tmps.size)
    (hq : Q .normal { tmps := a.tmps.setIfInBounds 20 (.func (.func 29) #[] #[x, y]), defers := { target := .fn (.func 29) #[x, y], args := #[] } :: a.defers } w) : c11D.wp Tryz.prog Q a w := by
  rw [c11D_eq]
  refine wp_region ?_
  have e : List.range ops11D.size = [0, 1] := rfl
  rw [e]
  simp only [wpOps, ops11D]
  simp [Region.wanted, Oper.wp, execOp, Instr.makeFunc, Oper.upon, resolve, Deferred.ofValue, Act.eval, Act.put, h4, h5, hs]
  exact .inl (.inl hq)

noncomputable def body29 : Code := Tryz.f29.body.getD .skip
noncomputable def c29B : Code := cHead (cTail body29)
noncomputable def c29C : Code := match cTail (cTail body29) with | .cond _ x _ => x | c => c
def ops29A : Array Oper := #[
  { dst := some 6, op := .call { callee := .builtin .recover, args := #[], argTypes := #[] }, type := 20, pos := "retext.go:89", after := #[], guard := none },
  { dst := some 2, op := .assign (.tmp 6), type := 20, pos := "retext.go:89", after := #[{ on := 0, ground := .data }, { on := 0, ground := .chain }, { on := 0, ground := .phase }], guard := none }]
theorem body29_eq : Tryz.f29.body = some (.seq (.region 0 ops29A false) (.seq c29B (.cond (.tmp 8) c29C .skip))) := by kernel_rfl
def H29B : Hints := { r := fun _ => none, s := fun _ => none, l := fun _ => none, d := fun _ => none }
theorem V29B {E : List PanicEntry → Heap → Prop} {t2 : Value} {h : Heap} {k k' : List Value → Heap → Prop} :
    (Reads Tryz.prog (binS .neq 20 true t2 .nilIface) h fun t8 => k [t8] h) = vc Tryz.prog H29B E c29B (zipF [2] [t2] []) h (looksK [8] [] k k') := by kernel_rfl

/-- nothing has panicked: the closure does nothing -/
theorem closure_quiet {x y : Value} {w : World} : CallsD Tryz.prog 29 #[x, y] .returning w fun e u' w' => e = .returned (.tuple #[]) ∧ u' = .returning ∧ Same w w' ∧ w'.heap = w.heap := by
  refine callsD_of_wpS Tryz.func29 body29_eq fun c₀ cs hm => ?_
  refine wpS_seq (wpS_region ?_)
  have e : List.range ops29A.size = [0, 1] := rfl
  rw [e]
  have hr : recoverD (c₀ :: cs) = none := by simp [recoverD, hm]
  have en : Tryz.f29.ntmps = 21 := by kernel_rfl
  simp only [wpOpsS, ops29A]
  simp [Region.wanted, execOp, resolve, invoke, builtin, hr, Oper.upon, Act.eval, Act.put, en]
  refine wpS_seq (wpS_of_wp ?_)
  have ha : Agrees [] 21 { tmps := #[x, y] ++ ((Array.replicate 19 undef).setIfInBounds 4 .nilIface).setIfInBounds 0 .nilIface, defers := [] } (zipF [2] [.nilIface] []) := by
    exact agrees_of rfl (by simp) (by simp [zipF])
  have hv : vc Tryz.prog H29B (fun _ _ => False) c29B (zipF [2] [Value.nilIface] []) w.heap (looksK [8] [] (fun vs h' => vs = [Value.bool false] ∧ h' = w.heap) fun _ _ => False) := by
    rw [← V29B, Tryz.neq20_n]
    exact ⟨rfl, rfl⟩
  refine last_piece (H := H29B) (E := fun _ _ => False) (w₀ := w) Tryz.mixed (n := 21) (by kernel_rfl) ha (Same.refl w) hv (fun _ _ _ _ h _ => h.elim) (fun _ _ _ _ _ h => h.elim) ?_
  rintro vs a' w' ha' hw' ⟨rfl, hh⟩
  have h8 : a'.eval (.tmp 8) = .bool false := ha'.eval (x := .tmp 8) rfl
  refine wpS_of_wp (wp_cond_false h8 (wp_skip ?_))
  refine ⟨ha'.defers, .returning, by rw [← hm], ?_⟩
  refine ⟨.tuple #[], ?_, rfl, rfl, hw', hh⟩
  have er : Tryz.f29.results = #[] := by kernel_rfl
  simp [results, er]
end Rt
end Go.Proofs
