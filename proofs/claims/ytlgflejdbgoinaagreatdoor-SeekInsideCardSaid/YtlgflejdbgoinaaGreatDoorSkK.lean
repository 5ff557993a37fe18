/- A part of the proofs over this seat: SkK. -/
import Derived.Test.YtlgflejdbgoinaaGreatDoorSkL
set_option linter.unusedVariables false
set_option linter.unusedSimpArgs false
set_option maxRecDepth 100000
namespace Go.Proofs
open Go.Vcg Go.Extern
namespace Rt

/-! ### A text within parentheses reads as it reads alone -/
theorem argsM_app {l r : List Op} {x : List Op × Nat} : argsM l = some x → argsM (l ++ r) = some x := by
  induction l generalizing x with
  | nil => intro h; simp [argsM] at h
  | cons s t ih =>
    intro h
    rw [List.cons_append, argsM.eq_2]
    rw [argsM.eq_2] at h
    split
    · rename_i hs; rw [if_pos hs] at h; exact h
    · rename_i hs
      rw [if_neg hs] at h
      obtain ⟨y, hy, rfl⟩ := Option.map_eq_some_iff.1 h
      rw [ih hy]
      rfl
structure Emb (a L : List Op) (n : Nat) : Prop where
  ex : ∃ pre rest, L = pre ++ (a ++ [41] :: rest) ∧ pre.length = n
theorem Emb.get {a L : List Op} {n i : Nat} {s : Op} (e : Emb a L n) (h : a[i]? = some s) : L[n + i]? = some s := by
  obtain ⟨pre, rest, rfl, rfl⟩ := e
  have hi := (List.getElem?_eq_some_iff.1 h).1
  rw [List.getElem?_append_right (by omega), Nat.add_sub_cancel_left, List.getElem?_append_left hi]
  exact h
theorem Emb.shut {a L : List Op} {n : Nat} (e : Emb a L n) : L[n + a.length]? = some [41] := by
  obtain ⟨pre, rest, rfl, rfl⟩ := e
  rw [List.getElem?_append_right (by omega), Nat.add_sub_cancel_left, List.getElem?_append_right (by omega), Nat.sub_self]
  rfl
theorem Emb.lt {a L : List Op} {n : Nat} (e : Emb a L n) : n + a.length < L.length := (List.getElem?_eq_some_iff.1 e.shut).1
theorem Emb.is {a L : List Op} {n i : Nat} {s : Op} (e : Emb a L n) (hi : i < a.length) : isO L s (n + i) = isO a s i := by
  unfold isO
  rw [e.get (List.getElem?_eq_getElem hi), List.getElem?_eq_getElem hi]
theorem Emb.end_ {a L : List Op} {n : Nat} {s : Op} (e : Emb a L n) : isO L s (n + a.length) = decide ([41] = s) := by
  unfold isO
  rw [e.shut]
  simp
theorem isO_end {a : List Op} {s : Op} {p : Nat} (h : a.length ≤ p) : isO a s p = false := by
  unfold isO
  rw [List.getElem?_eq_none h]
  simp
/-- what the reading of a at p tells, told of L at n + p -/
def Same_ (n : Nat) (ac : Bool) (m : Res (U × Nat × Bool)) (f : Nat → Bool → Res (U × Nat × Bool)) : Prop :=
  ∀ t p' ac', m = .ok (t, p', ac') → ∃ c : Bool, ac' = (ac || c) ∧ ∀ op2 ac2, f op2 ac2 = .ok (t, n + p', ac2 || c)
theorem emb_exec {a L : List Op} {n p : Nat} {ac : Bool} (e : Emb a L n) : Same_ n ac (execM a p) fun _ _ => execM L (n + p) := by
  intro t p' ac' h
  unfold execM at h
  cases ha : argsM (a.drop p) with
  | none => rw [ha] at h; cases h
  | some x =>
    rw [ha] at h
    simp only at h
    split at h
    · cases h
    · rename_i hne
      cases h
      refine ⟨true, by simp, fun op2 ac2 => ?_⟩
      obtain ⟨pre, rest, rfl, rfl⟩ := e
      have hp : p ≤ a.length := by
        rcases Nat.lt_or_ge a.length p with h | h
        · rw [List.drop_of_length_le (by omega)] at ha; simp [argsM] at ha
        · exact h
      have hd : (pre ++ (a ++ [41] :: rest)).drop (pre.length + p) = a.drop p ++ [41] :: rest := by
        rw [List.drop_append, List.drop_of_length_le (by omega), List.nil_append, Nat.add_sub_cancel_left, List.drop_append, Nat.sub_eq_zero_of_le hp]
        rfl
      unfold execM
      rw [hd, argsM_app ha]
      simp only
      rw [if_neg hne, Bool.or_true, Nat.add_assoc]
theorem emb_name {a L : List Op} {n p : Nat} {ac : Bool} (e : Emb a L n) : Same_ n ac (nameM a p ac) fun _ ac2 => nameM L (n + p) ac2 := by
  intro t p' ac' h
  unfold nameM at h
  cases hs : a[p]? with
  | none => rw [hs] at h; cases h
  | some s =>
    rw [hs] at h
    simp only at h
    split at h
    · cases h
    · rename_i hl
      cases h
      refine ⟨false, by simp, fun op2 ac2 => ?_⟩
      show nameM L (n + p) ac2 = _
      unfold nameM
      rw [e.get hs]
      simp only
      rw [if_neg hl, Bool.or_false, Nat.add_assoc]
theorem emb_newer {a L : List Op} {n p : Nat} {ac : Bool} (e : Emb a L n) : Same_ n ac (newerM a p ac) fun _ ac2 => newerM L (n + p) ac2 := by
  intro t p' ac' h
  unfold newerM at h
  cases hs : a[p]? with
  | none => rw [hs] at h; cases h
  | some s =>
    rw [hs] at h
    cases h
    refine ⟨false, by simp, fun op2 ac2 => ?_⟩
    show newerM L (n + p) ac2 = _
    unfold newerM
    rw [e.get hs]
    simp only
    rw [Bool.or_false, Nat.add_assoc]
theorem emb_type {a L : List Op} {n p : Nat} {ac : Bool} (e : Emb a L n) : Same_ n ac (typeM a p ac) fun _ ac2 => typeM L (n + p) ac2 := by
  intro t p' ac' h
  unfold typeM at h
  cases hs : a[p]? with
  | none => rw [hs] at h; cases h
  | some s =>
    rw [hs] at h
    simp only at h
    split at h
    · cases h
    · rename_i hl
      cases h
      refine ⟨false, by simp, fun op2 ac2 => ?_⟩
      show typeM L (n + p) ac2 = _
      unfold typeM
      rw [e.get hs]
      simp only
      rw [if_neg hl, Bool.or_false, Nat.add_assoc]
theorem emb_number {a L : List Op} {n p k : Nat} {ac : Bool} (e : Emb a L n) : Same_ n ac (numberM a k p ac) fun _ ac2 => numberM L k (n + p) ac2 := by
  intro t p' ac' h
  unfold numberM at h
  cases hs : a[p]? with
  | none => rw [hs] at h; cases h
  | some s =>
    rw [hs] at h
    simp only at h
    cases hn : numM (k == 6) s with
    | none => rw [hn] at h; cases h
    | some x =>
      rw [hn] at h
      cases h
      refine ⟨false, by simp, fun op2 ac2 => ?_⟩
      show numberM L k (n + p) ac2 = _
      unfold numberM
      rw [e.get hs]
      simp only
      rw [hn]
      simp only
      rw [Bool.or_false, Nat.add_assoc]
theorem emb_prim {a L : List Op} {n p : Nat} {ac : Bool} {s : Op} (e : Emb a L n) : Same_ n ac (primM a s p ac) fun _ ac2 => primM L s (n + p) ac2 := by
  intro t p' ac' h
  unfold primM at h
  split at h
  · rename_i hs; cases h; exact ⟨false, by simp, fun op2 ac2 => by show primM L s (n + p) ac2 = _; unfold primM; rw [if_pos hs, Bool.or_false]; rfl⟩
  rename_i h1
  split at h
  · rename_i hs; cases h; exact ⟨true, by simp, fun op2 ac2 => by show primM L s (n + p) ac2 = _; unfold primM; rw [if_neg h1, if_pos hs, Bool.or_true]; rfl⟩
  rename_i h2
  split at h
  · rename_i hs
    obtain ⟨c, hc, hh⟩ := emb_exec (ac := ac) e t p' ac' h
    exact ⟨c, hc, fun op2 ac2 => by show primM L s (n + p) ac2 = _; unfold primM; rw [if_neg h1, if_neg h2, if_pos hs]; exact hh op2 ac2⟩
  rename_i h3
  split at h
  · rename_i hs
    obtain ⟨c, hc, hh⟩ := emb_name e t p' ac' h
    exact ⟨c, hc, fun op2 ac2 => by show primM L s (n + p) ac2 = _; unfold primM; rw [if_neg h1, if_neg h2, if_neg h3, if_pos hs]; exact hh op2 ac2⟩
  rename_i h4
  split at h
  · rename_i hs
    obtain ⟨c, hc, hh⟩ := emb_newer e t p' ac' h
    exact ⟨c, hc, fun op2 ac2 => by show primM L s (n + p) ac2 = _; unfold primM; rw [if_neg h1, if_neg h2, if_neg h3, if_neg h4, if_pos hs]; exact hh op2 ac2⟩
  rename_i h5
  split at h
  · rename_i hs
    obtain ⟨c, hc, hh⟩ := emb_type e t p' ac' h
    exact ⟨c, hc, fun op2 ac2 => by show primM L s (n + p) ac2 = _; unfold primM; rw [if_neg h1, if_neg h2, if_neg h3, if_neg h4, if_neg h5, if_pos hs]; exact hh op2 ac2⟩
  rename_i h6
  split at h
  · rename_i hs
    obtain ⟨c, hc, hh⟩ := emb_number e t p' ac' h
    exact ⟨c, hc, fun op2 ac2 => by show primM L s (n + p) ac2 = _; unfold primM; rw [if_neg h1, if_neg h2, if_neg h3, if_neg h4, if_neg h5, if_neg h6, if_pos hs]; exact hh op2 ac2⟩
  rename_i h7
  split at h
  · rename_i hs
    obtain ⟨c, hc, hh⟩ := emb_number e t p' ac' h
    exact ⟨c, hc, fun op2 ac2 => by show primM L s (n + p) ac2 = _; unfold primM; rw [if_neg h1, if_neg h2, if_neg h3, if_neg h4, if_neg h5, if_neg h6, if_neg h7, if_pos hs]; exact hh op2 ac2⟩
  cases h

/-- two steps after one another -/
theorem Same_.bind {n : Nat} {ac : Bool} {m : Res (U × Nat × Bool)} {f : Nat → Bool → Res (U × Nat × Bool)} {g : U → Nat → Bool → Res (U × Nat × Bool)} {g' : Nat → U → Nat → Bool → Res (U × Nat × Bool)} (h : Same_ n ac m f)
    (hg : ∀ t p' ac', m = .ok (t, p', ac') → Same_ n ac' (g t p' ac') fun op2 ac2 => g' op2 t (n + p') ac2) :
    Same_ n ac (match (generalizing := false) m with | .ok (t, p', ac') => g t p' ac' | x => x) fun op2 ac2 => match (generalizing := false) f op2 ac2 with | .ok (t, p', ac') => g' op2 t p' ac' | x => x := by
  intro t p' ac' e
  cases hm : m with
  | out => rw [hm] at e; cases e
  | bad a b => rw [hm] at e; cases e
  | ok x =>
    obtain ⟨u, q, a1⟩ := x
    rw [hm] at e
    simp only at e
    obtain ⟨c1, hc1, h1⟩ := h u q a1 hm
    obtain ⟨c2, hc2, h2⟩ := hg u q a1 hm t p' ac' e
    refine ⟨c1 || c2, by rw [hc2, hc1, Bool.or_assoc], fun op2 ac2 => ?_⟩
    simp only [h1 op2 ac2]
    have h2' := h2 op2 (ac2 || c1)
    simp only at h2'
    rw [h2', Bool.or_assoc]

theorem emb_all {a L : List Op} {n : Nat} (hla : a.length ≤ 64) (hsh : ∀ s ∈ a, s.length ≤ 1024) (e : Emb a L n) : ∀ k : Nat,
    (∀ p op ac, p ≤ a.length → Same_ n ac (factorM k a p op ac) fun op2 ac2 => factorM k L (n + p) op2 ac2) ∧
    (∀ t p op ac, p ≤ a.length → Same_ n ac (termL k a t p op ac) fun op2 ac2 => termL k L t (n + p) op2 ac2) ∧
    (∀ p op ac, p ≤ a.length → Same_ n ac (termM k a p op ac) fun op2 ac2 => termM k L (n + p) op2 ac2) ∧
    (∀ t p op ac, p ≤ a.length → Same_ n ac (exprL k a t p op ac) fun op2 ac2 => exprL k L t (n + p) op2 ac2) ∧
    (∀ p op ac, p ≤ a.length → Same_ n ac (exprM k a p op ac) fun op2 ac2 => exprM k L (n + p) op2 ac2) := by
  intro k
  induction k with
  | zero =>
    refine ⟨fun p op ac _ => ?_, fun t p op ac _ => ?_, fun p op ac _ => ?_, fun t p op ac _ => ?_, fun p op ac _ => ?_⟩
    · intro t p' ac' h; unfold factorM at h; cases h
    · intro t p' ac' h; unfold termL at h; cases h
    · intro t p' ac' h; unfold termM at h; cases h
    · intro t p' ac' h; unfold exprL at h; cases h
    · intro t p' ac' h; unfold exprM at h; cases h
  | succ k ih =>
    obtain ⟨hF, hTL, hT, hXL, hX⟩ := ih
    obtain ⟨tF, tTL, tT, tXL, tX⟩ := tells_all hla hsh k
    refine ⟨fun p op ac hp => ?_, fun t p op ac hp => ?_, fun p op ac hp => ?_, fun t p op ac hp => ?_, fun p op ac hp => ?_⟩
    · intro t p' ac' h
      unfold factorM at h
      cases hs : a[p]? with
      | none => rw [hs] at h; cases h
      | some s =>
        rw [hs] at h
        simp only at h
        have hlt := (List.getElem?_eq_some_iff.1 hs).1
        have step : ∀ op2 ac2, factorM (k + 1) L (n + p) op2 ac2 = (if s = [33] then notM (factorM k L (n + p + 1) op2 ac2) else if s = [40] then parM L (exprM k L (n + p + 1) (op2 + 1) ac2) else if s = [41] then (if op2 = 0 then .bad 9 (n + p) else .bad 3 (n + p)) else primM L s (n + p) ac2) := by
          intro op2 ac2
          rw [factorM, e.get hs]
        split at h
        · rename_i h1
          cases hm : factorM k a (p + 1) op ac with
          | out => rw [hm] at h; cases h
          | bad x y => rw [hm] at h; cases h
          | ok x =>
            obtain ⟨u, q, a1⟩ := x
            rw [hm] at h
            unfold notM at h
            cases h
            obtain ⟨c, hc, hh⟩ := hF (p + 1) op ac (by omega) _ _ _ hm
            refine ⟨c, hc, fun op2 ac2 => ?_⟩
            show factorM (k + 1) L (n + p) op2 ac2 = _
            rw [step, if_pos h1]
            have := hh op2 ac2
            simp only [← Nat.add_assoc] at this
            rw [this]
            rfl
        rename_i h1
        split at h
        · rename_i h2
          cases hm : exprM k a (p + 1) (op + 1) ac with
          | out => rw [hm] at h; cases h
          | bad x y => rw [hm] at h; cases h
          | ok x =>
            obtain ⟨u, q, a1⟩ := x
            rw [hm] at h
            unfold parM at h
            simp only at h
            split at h
            · rename_i hy
              cases h
              have hq := isO_lt hy
              obtain ⟨c, hc, hh⟩ := hX (p + 1) (op + 1) ac (by omega) _ _ _ hm
              refine ⟨c, hc, fun op2 ac2 => ?_⟩
              show factorM (k + 1) L (n + p) op2 ac2 = _
              rw [step, if_neg h1, if_pos h2]
              have := hh (op2 + 1) ac2
              simp only [← Nat.add_assoc] at this
              rw [this]
              unfold parM
              simp only
              rw [e.is hq, if_pos hy, Nat.add_assoc]
            · cases h
        rename_i h2
        split at h
        · split at h <;> cases h
        rename_i h3
        obtain ⟨c, hc, hh⟩ := emb_prim (ac := ac) e t p' ac' h
        refine ⟨c, hc, fun op2 ac2 => ?_⟩
        show factorM (k + 1) L (n + p) op2 ac2 = _
        rw [step, if_neg h1, if_neg h2, if_neg h3]
        exact hh op2 ac2
    · have hcond : (isO L kwA (n + p) = false ∧ (L.length ≤ n + p ∨ isO L kwO (n + p) = true ∨ isO L [41] (n + p) = true)) ↔ (isO a kwA p = false ∧ (a.length ≤ p ∨ isO a kwO p = true ∨ isO a [41] p = true)) := by
        have hL := e.lt
        rcases Nat.lt_or_ge p a.length with hlt | hge
        · rw [e.is hlt, e.is hlt, e.is hlt]
          constructor
          · rintro ⟨h1, h2 | h2⟩
            · omega
            · exact ⟨h1, .inr h2⟩
          · rintro ⟨h1, h2 | h2⟩
            · omega
            · exact ⟨h1, .inr h2⟩
        · have : p = a.length := by omega
          subst this
          rw [e.end_, e.end_, e.end_, isO_end (Nat.le_refl _)]
          simp [kwA]
      have hA : (if isO L kwA (n + p) = true then n + p + 1 else n + p) = n + (if isO a kwA p = true then p + 1 else p) := by
        rcases Nat.lt_or_ge p a.length with hlt | hge
        · rw [e.is hlt]
          split <;> rfl
        · have : p = a.length := by omega
          subst this
          rw [e.end_, isO_end (Nat.le_refl _)]
          simp [kwA]
      by_cases hc : (isO a kwA p = false ∧ (a.length ≤ p ∨ isO a kwO p = true ∨ isO a [41] p = true))
      · intro u p' ac' h
        unfold termL at h
        rw [if_pos hc] at h
        cases h
        refine ⟨false, by simp, fun op2 ac2 => ?_⟩
        show termL (k + 1) L t (n + p) op2 ac2 = _
        unfold termL
        rw [if_pos (hcond.2 hc), Bool.or_false]
      · have hp1 : (if isO a kwA p = true then p + 1 else p) ≤ a.length := by
          split
          · rename_i hy; have := isO_lt hy; omega
          · exact hp
        have key := (hF (if isO a kwA p = true then p + 1 else p) op ac hp1).bind (g := fun u p' ac' => termL k a (twoU 1 t u) p' op ac') (g' := fun op2 u p' ac' => termL k L (twoU 1 t u) p' op2 ac') fun u q a1 hm => by
          have := tF (if isO a kwA p = true then p + 1 else p) op ac hp1
          rw [hm] at this
          exact hTL (twoU 1 t u) q op a1 this.2.1
        intro u p' ac' h
        unfold termL at h
        rw [if_neg hc] at h
        obtain ⟨c, hc', hh⟩ := key u p' ac' h
        refine ⟨c, hc', fun op2 ac2 => ?_⟩
        show termL (k + 1) L t (n + p) op2 ac2 = _
        unfold termL
        rw [if_neg (fun h => hc (hcond.1 h)), hA]
        exact hh op2 ac2
    · have key := (hF p op ac hp).bind (g := fun u p' ac' => termL k a u p' op ac') (g' := fun op2 u p' ac' => termL k L u p' op2 ac') fun u q a1 hm => by
        have := tF p op ac hp
        rw [hm] at this
        exact hTL u q op a1 this.2.1
      intro u p' ac' h
      unfold termM at h
      obtain ⟨c, hc', hh⟩ := key u p' ac' h
      refine ⟨c, hc', fun op2 ac2 => ?_⟩
      show termM (k + 1) L (n + p) op2 ac2 = _
      unfold termM
      exact hh op2 ac2
    · rcases Nat.lt_or_ge p a.length with hlt | hge
      · by_cases hc : isO a kwO p = true
        · have key := (hT (p + 1) op ac (by omega)).bind (g := fun u p' ac' => exprL k a (twoU 2 t u) p' op ac') (g' := fun op2 u p' ac' => exprL k L (twoU 2 t u) p' op2 ac') fun u q a1 hm => by
            have := tT (p + 1) op ac (by omega)
            rw [hm] at this
            exact hXL (twoU 2 t u) q op a1 this.2.1
          intro u p' ac' h
          unfold exprL at h
          rw [if_pos hc] at h
          obtain ⟨c, hc', hh⟩ := key u p' ac' h
          refine ⟨c, hc', fun op2 ac2 => ?_⟩
          show exprL (k + 1) L t (n + p) op2 ac2 = _
          unfold exprL
          rw [e.is hlt, if_pos hc]
          exact hh op2 ac2
        · intro u p' ac' h
          unfold exprL at h
          rw [if_neg hc] at h
          cases h
          refine ⟨false, by simp, fun op2 ac2 => ?_⟩
          show exprL (k + 1) L t (n + p) op2 ac2 = _
          unfold exprL
          rw [e.is hlt, if_neg hc, Bool.or_false]
      · have : p = a.length := by omega
        subst this
        intro u p' ac' h
        unfold exprL at h
        rw [isO_end (Nat.le_refl _), if_neg (by simp)] at h
        cases h
        refine ⟨false, by simp, fun op2 ac2 => ?_⟩
        show exprL (k + 1) L t (n + a.length) op2 ac2 = _
        unfold exprL
        rw [e.end_, if_neg (by simp [kwO]), Bool.or_false]
    · have key := (hT p op ac hp).bind (g := fun u p' ac' => exprL k a u p' op ac') (g' := fun op2 u p' ac' => exprL k L u p' op2 ac') fun u q a1 hm => by
        have := tT p op ac hp
        rw [hm] at this
        exact hXL u q op a1 this.2.1
      intro u p' ac' h
      unfold exprM at h
      obtain ⟨c, hc', hh⟩ := key u p' ac' h
      refine ⟨c, hc', fun op2 ac2 => ?_⟩
      show exprM (k + 1) L (n + p) op2 ac2 = _
      unfold exprM
      exact hh op2 ac2
end Rt
end Go.Proofs

set_option maxRecDepth 100000
namespace Go.Proofs
open Go.Vcg Go.Extern
namespace Rt

/-! ### All of a text within parentheses, and two beside one another -/
def inL (l : List Op) : List Op := [40] :: (l ++ [[41]])
theorem inL_len (l : List Op) : (inL l).length = l.length + 2 := by simp [inL]
theorem par_step {k n op : Nat} {ac ca : Bool} {a L : List Op} {ua : U} (hla : a.length ≤ 64) (hsh : ∀ s ∈ a, s.length ≤ 1024) (e : Emb a L (n + 1)) (h0 : L[n]? = some [40]) (ha : exprM k a 0 0 false = .ok (ua, a.length, ca)) :
    factorM (k + 1) L n op ac = .ok (ua, n + a.length + 2, ac || ca) := by
  obtain ⟨c, hc, hh⟩ := (emb_all hla hsh e k).2.2.2.2 0 0 false (by omega) _ _ _ ha
  have hc : ca = c := by simpa using hc
  subst hc
  have := hh (op + 1) ac
  simp only [Nat.add_zero] at this
  rw [factorM, h0]
  simp only
  rw [if_neg (by decide), if_pos trivial, this]
  unfold parM
  simp only
  rw [e.end_, if_pos (by decide)]
  congr 3
  omega
theorem expr_end {k op : Nat} {ac : Bool} {L : List Op} {t : U} (hk : 0 < k) : exprL k L t L.length op ac = .ok (t, L.length, ac) ∧ termL k L t L.length op ac = .ok (t, L.length, ac) := by
  obtain ⟨k, rfl⟩ : ∃ j, k = j + 1 := ⟨k - 1, by omega⟩
  constructor
  · unfold exprL
    rw [isO_end (Nat.le_refl _), if_neg (by simp)]
  · unfold termL
    rw [if_pos ⟨isO_end (Nat.le_refl _), .inl (Nat.le_refl _)⟩]
theorem in_one {a : List Op} {ua : U} {ca : Bool} (hla : a.length ≤ 25) (hsh : ∀ s ∈ a, s.length ≤ 1024) (ha : exprM 200 a 0 0 false = .ok (ua, a.length, ca)) : exprM 203 (inL a) 0 0 false = .ok (ua, (inL a).length, ca) := by
  have e : Emb a (inL a) (0 + 1) := ⟨[[40]], [], rfl, rfl⟩
  have hf := par_step (op := 0) (ac := false) (by omega) hsh e rfl ha
  have hl : 0 + a.length + 2 = (inL a).length := by rw [inL_len]; omega
  rw [hl, Bool.false_or] at hf
  have h1 : termM 202 (inL a) 0 0 false = .ok (ua, (inL a).length, ca) := by
    rw [termM, hf]
    exact (expr_end (by omega)).2
  rw [exprM, h1]
  exact (expr_end (by omega)).1
theorem in_two {a b mid : List Op} {ua ub : U} {ca cb : Bool} (hm : mid = [] ∨ mid = [kwA]) (hla : a.length ≤ 25) (hlb : b.length ≤ 25) (hsa : ∀ s ∈ a, s.length ≤ 1024) (hsb : ∀ s ∈ b, s.length ≤ 1024)
    (ha : exprM 200 a 0 0 false = .ok (ua, a.length, ca)) (hb : exprM 199 b 0 0 false = .ok (ub, b.length, cb)) :
    exprM 203 (inL a ++ (mid ++ inL b)) 0 0 false = .ok (twoU 1 ua ub, (inL a ++ (mid ++ inL b)).length, ca || cb) := by
  generalize hL : inL a ++ (mid ++ inL b) = L
  have ea : Emb a L (0 + 1) := ⟨[[40]], mid ++ inL b, by rw [← hL]; simp [inL], rfl⟩
  have h0 : L[0]? = some [40] := by rw [← hL]; rfl
  have hf := par_step (op := 0) (ac := false) (by omega) hsa ea h0 ha
  rw [Bool.false_or] at hf
  have hlen : L.length = a.length + 2 + (mid.length + (b.length + 2)) := by rw [← hL]; simp [inL_len]
  have hq : ∀ i, L[a.length + 2 + i]? = (mid ++ inL b)[i]? := by
    intro i
    rw [← hL, List.getElem?_append_right (by rw [inL_len]; omega), inL_len]
    congr 1
    omega
  -- the second one's place
  have eb : Emb b L (a.length + 2 + mid.length + 1) := ⟨inL a ++ mid ++ [[40]], [], by rw [← hL]; simp [inL], by simp [inL_len]; omega⟩
  have hb0 : L[a.length + 2 + mid.length]? = some [40] := by
    rw [hq, List.getElem?_append_right (by omega), Nat.sub_self]
    rfl
  have hg := par_step (op := 0) (ac := ca) (by omega) hsb eb hb0 hb
  have he : a.length + 2 + mid.length + b.length + 2 = L.length := by omega
  rw [he] at hg
  have ht : termL 201 L ua (0 + a.length + 2) 0 ca = .ok (twoU 1 ua ub, L.length, ca || cb) := by
    rw [Nat.zero_add]
    have hstart : (if isO L kwA (a.length + 2) = true then a.length + 2 + 1 else a.length + 2) = a.length + 2 + mid.length := by
      rcases hm with rfl | rfl
      · rw [if_neg]
        · rfl
        · have := hq 0
          simp only [Nat.add_zero] at this
          unfold isO
          rw [this, show ([] ++ inL b)[0]? = some [40] from rfl]
          decide
      · rw [if_pos]
        · rfl
        · have := hq 0
          simp only [Nat.add_zero] at this
          unfold isO
          rw [this]
          rfl
    have hno : ¬ (isO L kwA (a.length + 2) = false ∧ (L.length ≤ a.length + 2 ∨ isO L kwO (a.length + 2) = true ∨ isO L [41] (a.length + 2) = true)) := by
      rintro ⟨h1, h2⟩
      rcases hm with rfl | rfl
      · have := hq 0
        simp only [Nat.add_zero] at this
        unfold isO at h2
        rw [this, show ([] ++ inL b)[0]? = some [40] from rfl] at h2
        rcases h2 with h2 | h2 | h2
        · omega
        · exact absurd h2 (by decide)
        · exact absurd h2 (by decide)
      · have := hq 0
        simp only [Nat.add_zero] at this
        unfold isO at h1
        rw [this, show ([kwA] ++ inL b)[0]? = some kwA from rfl] at h1
        exact absurd h1 (by decide)
    rw [termL, if_neg hno, hstart, hg]
    exact (expr_end (by omega)).2
  have h1 : termM 202 L 0 0 false = .ok (twoU 1 ua ub, L.length, ca || cb) := by
    rw [termM, hf]
    exact ht
  rw [exprM, h1]
  exact (expr_end (by omega)).1
/-- what a parse that went well was -/
theorem parse_was {k : Nat} {l : List Op} {t : U} (h0 : l ≠ []) (h : parseM k l = .ok t) : (∀ s ∈ l, s.length ≤ 1024) ∧ ∃ u c, exprM k l 0 0 false = .ok (u, l.length, c) ∧ t = (if c then u else twoU 1 u printU) := by
  unfold parseM at h
  split at h
  · cases h
  · rename_i h64
    cases hl : longAt l with
    | some i => rw [hl] at h; cases h
    | none =>
      rw [hl] at h
      have hsh : ∀ s ∈ l, s.length ≤ 1024 := by
        unfold longAt at hl
        rw [List.findIdx?_eq_none_iff] at hl
        intro s hs
        have := hl s hs
        simp at this
        omega
      simp only [if_neg h0] at h
      refine ⟨hsh, ?_⟩
      have ht := (tells_all (l := l) (by omega) hsh k).2.2.2.2 0 0 false (by omega)
      cases hm : exprM k l 0 0 false with
      | out => rw [hm] at h; cases h
      | bad a b => rw [hm] at h; cases h
      | ok x =>
        obtain ⟨u, p, c⟩ := x
        rw [hm] at h ht
        unfold endM at h
        simp only at h
        split at h
        · cases h
        · rename_i hp
          have : p = l.length := by have := ht.2.1; omega
          subst this
          injection h with h
          exact ⟨u, c, rfl, h.symm⟩
theorem parse_is {k : Nat} {l : List Op} {u : U} {c : Bool} (h0 : l ≠ []) (hl : l.length ≤ 64) (hsh : ∀ s ∈ l, s.length ≤ 1024) (h : exprM k l 0 0 false = .ok (u, l.length, c)) : parseM k l = .ok (if c then u else twoU 1 u printU) := by
  unfold parseM
  rw [if_neg (by omega), (longAt_none (l := l) fun j hj s hs => sh_get hsh hs).1]
  simp only
  rw [if_neg h0, h]
  unfold endM
  simp only
  rw [if_neg (by omega)]
end Rt
end Go.Proofs

set_option maxRecDepth 100000
namespace Go.Proofs
open Go.Vcg Go.Extern
namespace Rt
attribute [local congr] Reads.congr ReadsS.congr pLoad.congr pLoadS.congr pStore.congr Runs.congr CallsH.congr bcase.congr boolV.congr Stable.congr pAlloc.congr
variable {S : Glb} {n : Nat} {h : Heap} {R : Value → Heap → Prop} {E : List PanicEntry → Heap → Prop}

/-- an expression in memory -/
def Pr (h : Heap) (v : Value) (t : U) : Prop := ∃ b vs, v = ptr b ∧ h[b]? = some (.cells vs.toArray 55 (0, 0)) ∧ IsSk h (fun _ => True) t vs
theorem Pr.fm {h' : Heap} {v : Value} {t : U} (p : Pr h v t) (f : Fm h.size h.size h h') : Pr h' v t := by
  obtain ⟨b, vs, rfl, hb, ht⟩ := p
  have hl := at_lt hb
  exact ⟨b, vs, rfl, (f.same b hl (by omega)).trans hb, ht.frame fun x _ hx => ⟨trivial, f.same x hx (by omega)⟩⟩
theorem Pr.text {v : Value} {t : U} (p : Pr h v t) (hg : GoodT t) (hk : ∀ h', Fm h.size h.size h h' → R (str (writeU t)) h') : CallsH Tryz.prog 12 #[v] h R E := by
  obtain ⟨b, vs, rfl, hb, ht⟩ := p
  exact text_spec hb ht hg.1 hg.2.1 hg.2.2 hk
theorem IsOps.fm {h' : Heap} {v : Value} {l : List Op} (o : IsOps h v l) (f : Fm h.size h.size h h') : IsOps h' v l := o.frame f.size fun b _ _ _ hb => f.same b hb (by omega)
theorem ops_lt {v : Value} {l : List Op} (o : IsOps h v l) : ∀ b k m c, v = .slice (some ⟨b, k, none⟩) m c → b < h.size := by
  intro b k m c e
  rcases o with ⟨rfl, _⟩ | ⟨b', k', c', rfl, _, hlt, _⟩
  · cases e
  · cases e; exact hlt
theorem _root_.Go.Vcg.Fm.self {h0 h' : Heap} (f0 : Fm h0.size h0.size h0 h) (f : Fm h.size h.size h h') : Fm h0.size h0.size h0 h' := by
  have := f0.size
  exact f0.trans ⟨f.size, fun b hb _ => f.same b (by omega) (by omega)⟩
/-- Parse, for one who needs to know whether it went well -/
theorem parse_or {k : Nat} {v : Value} {l : List Op} (hk195 : 195 ≤ k) (gl : Gl S h) (hn : S.N ≤ h.size) (hb : IsOps h v l)
    (hbad : ∀ code pos, parseM k l = .bad code pos → ∀ h' e, Fm h.size h.size h h' → IsErr S h' h.size 9 code pos e → R (.tuple #[.pointer none, e]) h')
    (hok : ∀ t, parseM k l = .ok t → GoodT t → ∀ h' v, Fm h.size h.size h h' → Pr h' v t → R (.tuple #[v, .nilIface]) h') : CallsH Tryz.prog 10 #[v] h R E := by
  refine parse_spec (S := S) (k := k) gl hn hb (ops_lt hb) ?_
  have ht := parse_tells hk195 l
  cases hm : parseM k l with
  | out => rw [hm] at ht; exact ht
  | bad a b => exact fun h' e f ie => hbad a b hm h' e f ie
  | ok t =>
    rw [hm] at ht
    exact fun h' b vs f _ hb hsk => hok t hm ht h' _ f ⟨b, vs, rfl, hb, hsk.frame fun _ _ _ => ⟨trivial, rfl⟩⟩
theorem eq26 {e : Value} {m lang code pos : Nat} {k : Value → Prop} (he : IsErr S h m lang code pos e) {hh : Heap} : Reads Tryz.prog (binS .neq 26 true e .nilIface) hh k = k (.bool true) := by
  obtain ⟨a, b, _, _, rfl, _⟩ := he
  exact Tryz.neq26_s
theorem closure_call {f : FuncId} {v : Value} {K : Value → Heap → Prop} {fn : Func} {cd : Code} (hf : Tryz.prog.funcs[f]? = some fn) (hname : (fn.name == "runtime.NumGoroutine") = false) (hb : fn.body = some cd)
    (hk : CallsH Tryz.prog f #[v] h K E) : Runs Tryz.prog (do let d ← Deferred.ofValue (.func (.func f) #[] #[]) #[v]; invoke d.target d.args) h K E := by
  intro w hw
  subst hw
  have h1 : fn.name ≠ "runtime.NumGoroutine" := by simpa using hname
  have e : (callFunc f #[v]).run Tryz.prog w = .ok (.enter f #[v]) w := by simp [callFunc, hf, h1, hb]
  simp [Deferred.ofValue, invoke, e, uponH, Same.refl]
  exact hk
/-- strings put behind a row, from a slice of strings -/
theorem push_ops {v u : Value} {l m : List Op} {cs : Array Bool} {K : Value → Heap → Prop} (b : SRow h n v l) (hn : n ≤ h.size) (hlen : l.length + m.length ≤ 1000000) (hu : IsOps h u m) (h0 : m ≠ [])
    (hK : ∀ v' h', SRow h' n v' (l ++ m) → (∀ r, Fm n r h h') → K v' h') : Runs Tryz.prog (builtin .append #[22, 22] 22 cs #[v, u]) h K E := by
  rcases hu with ⟨_, rfl⟩ | ⟨bb, o, c, rfl, hc, hlt, hat⟩
  · exact absurd rfl h0
  · refine push_strs (m := m) b hn (by omega) (fun j hj => by rw [addr_add]; exact hat j hj) fun v' h' r' g' _ => hK v' h' r' fun r => ?_
    exact Fm.grown g' hn fun x hx => .inl (b.lt x hx).1
theorem start_row {x : Op} {K : Value → Heap → Prop} (hk : ∀ v h', SRow h' h.size v [x] → (∀ r, Fm h.size r h h') → K v h') : Runs Tryz.prog (vS (Instr.buildSlice 22 1 #[(0, str x)])) h K E := by
  refine slice1_rule Tryz.info9 Tryz.underlying22 rfl (by omega) (by omega) fun h1 a1 => ?_
  refine hk _ h1 ⟨by simp, .inr ⟨h.size, 1, #[str x], rfl, Nat.le_refl _, a1.at_, Nat.le_refl _, by simp [maxLen], by simp, by simp⟩⟩ fun r => Fm.al a1 (Nat.le_refl _)
theorem in_spec_ {u : Value} {l : List Op} (hu : IsOps h u l) (h0 : l ≠ []) (hl : l.length ≤ 1000) (hk : ∀ v h', SRow h' h.size v (inL l) → Fm h.size h.size h h' → R v h') : CallsH Tryz.prog 11 #[u] h R E := by
  refine C11 ?_
  unfold S11
  refine start_row fun v1 h1 r1 f1 => ?_
  have s1 := (f1 h.size).size
  refine push_ops r1 s1 (by simp; omega) (hu.fm (f1 h.size)) h0 fun v2 h2 r2 f2 => ?_
  have s2 := (f2 h.size).size
  refine push_str1 rfl r2 (by omega) (by simp; omega) fun v3 h3 r3 f3 => ?_
  refine hk v3 h3 ?_ (((f1 h.size).trans (f2 h.size)).trans (f3 h.size))
  simpa [inL] using r3
theorem f11_name : (Tryz.f11.name == "runtime.NumGoroutine") = false := by kernel_rfl
theorem f11_body : ∃ c, Tryz.f11.body = some c := Option.isSome_iff_exists.1 (by kernel_rfl)
end Rt
end Go.Proofs

set_option maxRecDepth 100000
namespace Go.Proofs
open Go.Vcg Go.Extern
namespace Rt
attribute [local congr] Reads.congr ReadsS.congr pLoad.congr pLoadS.congr pStore.congr Runs.congr CallsH.congr bcase.congr boolV.congr Stable.congr pAlloc.congr
variable {S : Glb} {n : Nat} {h : Heap} {R : Value → Heap → Prop} {E : List PanicEntry → Heap → Prop}

/-- what Parse gave -/
inductive Pa (h : Heap) (m : Res U) (v e : Value) : Prop where
  | ok (t : U) (hm : m = .ok t) (hg : GoodT t) (hp : Pr h v t) (he : e = .nilIface)
  | bad (hm : ∀ t, m ≠ .ok t) (he : ∃ T u, e = .iface T u)
theorem Pa.fm {h' : Heap} {m : Res U} {v e : Value} (p : Pa h m v e) (f : Fm h.size h.size h h') : Pa h' m v e := by
  cases p with
  | ok t hm hg hp he => exact .ok t hm hg (hp.fm f) he
  | bad hm he => exact .bad hm he
theorem parse_any {k : Nat} {v : Value} {l : List Op} (hk195 : 195 ≤ k) (gl : Gl S h) (hn : S.N ≤ h.size) (hb : IsOps h v l) (hk : ∀ h' v e, Fm h.size h.size h h' → Pa h' (parseM k l) v e → R (.tuple #[v, e]) h') : CallsH Tryz.prog 10 #[v] h R E := by
  refine parse_or (k := k) hk195 gl hn hb (fun code pos hm h' e f ie => ?_) (fun t hm hg h' v f hp => hk h' v _ f (.ok t hm hg hp rfl))
  obtain ⟨a, b, _, _, rfl, _⟩ := ie
  exact hk h' _ _ f (.bad (fun t ht => by rw [hm] at ht; cases ht) ⟨_, _, rfl⟩)
theorem in_call {u : Value} {l : List Op} {K : Value → Heap → Prop} (hu : IsOps h u l) (h0 : l ≠ []) (hl : l.length ≤ 1000) (hk : ∀ v h', SRow h' h.size v (inL l) → Fm h.size h.size h h' → K v h') :
    Runs Tryz.prog (do let d ← Deferred.ofValue (.func (.func 11) #[] #[]) #[u]; invoke d.target d.args) h K E := by
  obtain ⟨c, hc⟩ := f11_body
  exact closure_call Tryz.func11 f11_name hc (in_spec_ hu h0 hl hk)
theorem sh_in {l : List Op} (h : ∀ s ∈ l, s.length ≤ 1024) : ∀ s ∈ inL l, s.length ≤ 1024 := by
  intro s hs
  simp only [inL, List.mem_cons, List.mem_append, List.not_mem_nil, or_false] at hs
  rcases hs with rfl | hs | rfl
  · simp
  · exact h s hs
  · simp
theorem inside_spec {u v : Value} {a b : List Op} (gl : Gl S h) (hn : S.N ≤ h.size) (ha : IsOps h u a) (_ : ∀ b o m c, u = .slice (some ⟨b, o, none⟩) m c → b < h.size) (hb : IsOps h v b) (_ : ∀ b o m c, v = .slice (some ⟨b, o, none⟩) m c → b < h.size)
    (hk : ∀ h', Fm h.size h.size h h' → R (.bool true) h') : CallsH Tryz.prog 3 #[u, v] h R E := by
  refine C3 ?_
  unfold S3
  have aw : ∀ {h' : Heap}, Fm h.size h.size h h' → CallsH Tryz.prog 9 #[] h' (fun t34 h1 => R t34 h1) E := by
    intro h' f
    have := f.size
    exact awake_spec (S := S) (gl.fm f hn hn) (by omega) fun h2 f2 => hk h2 (f.self f2)
  refine Join0.intro (fun h' => h' = h ∧ a ≠ [] ∧ b ≠ [] ∧ a.length ≤ 25 ∧ b.length ≤ 25) ?_ ?_
  · rw [reads_olen ha, reads_eq, boolV_bool]
    refine bcase_of (fun _ => aw (Fm.refl ..)) (fun h1 => ?_)
    have h1 := of_decide_eq_false h1
    rw [reads_olen hb, reads_eq, boolV_bool]
    refine bcase_of (fun _ => aw (Fm.refl ..)) (fun h2 => ?_)
    have h2 := of_decide_eq_false h2
    rw [reads_olen ha, reads_gt, boolV_bool]
    refine bcase_of (fun _ => aw (Fm.refl ..)) (fun h3 => ?_)
    have h3 := of_decide_eq_false h3
    rw [reads_olen hb, reads_gt, boolV_bool]
    refine bcase_of (fun _ => aw (Fm.refl ..)) (fun h4 => ?_)
    have h4 := of_decide_eq_false h4
    exact ⟨rfl, by rintro rfl; simp at h1, by rintro rfl; simp at h2, by omega, by omega⟩
  rintro h0 ⟨rfl, ha0, hb0, hla, hlb⟩
  refine parse_any (S := S) (k := 200) (by omega) gl hn ha fun h6 p e6 f6 pa => ?_
  rw [reads_ext0, reads_ext1]
  have s6 := f6.size
  refine parse_any (S := S) (k := 199) (by omega) (gl.fm f6 hn hn) (by omega) (hb.fm f6) fun h7 q e7 f7 qb => ?_
  rw [reads_ext0, reads_ext1]
  have f07 := f6.self f7
  have pa7 := pa.fm f7
  have s7 := f07.size
  refine Join0.intro (fun h' => h' = h7 ∧ ∃ ta tb, parseM 200 a = .ok ta ∧ parseM 199 b = .ok tb ∧ GoodT ta ∧ GoodT tb ∧ Pr h7 p ta ∧ Pr h7 q tb) ?_ ?_
  · cases pa7 with
    | bad hm he =>
      obtain ⟨T, w, rfl⟩ := he
      rw [Tryz.neq26_s, boolV_bool, bcase_true]
      exact aw f07
    | ok ta hma hga hpa hea =>
      subst hea
      rw [Tryz.neq26_n, boolV_bool, bcase_false]
      cases qb with
      | bad hm he =>
        obtain ⟨T, w, rfl⟩ := he
        rw [Tryz.neq26_s, boolV_bool, bcase_true]
        exact aw f07
      | ok tb hmb hgb hpb heb =>
        subst heb
        rw [Tryz.neq26_n, boolV_bool, bcase_false]
        exact ⟨rfl, ta, tb, hma, hmb, hga, hgb, hpa, hpb⟩
  rintro h8 ⟨rfl, ta, tb, hma, hmb, hga, hgb, hpa, hpb⟩
  obtain ⟨hsa, ua, ca, hea, hta⟩ := parse_was ha0 hma
  obtain ⟨hsb, ub, cb, heb, htb⟩ := parse_was hb0 hmb
  -- all of a within parentheses
  have m1 : parseM 203 (inL a) = .ok ta := by
    rw [hta]
    exact parse_is (by simp [inL]) (by rw [inL_len]; omega) (sh_in hsa) (in_one hla hsa hea)
  refine in_call (ha.fm f07) ha0 (by omega) fun v9 h9 r9 f9 => ?_
  have f09 := f07.self f9
  have s9 := f09.size
  refine parse_any (S := S) (k := 203) (by omega) (gl.fm f09 hn hn) (by omega) r9.is.is fun h10 r e10 f10 pr => ?_
  have f010 := f09.self f10
  have s10 := f010.size
  rw [m1] at pr
  rw [reads_ext0, reads_ext1]
  have f810 := f9.self f10
  refine Join0.intro (fun h' => Fm h10.size h10.size h10 h') ?_ ?_
  · cases pr with
    | bad hm _ => exact absurd rfl (hm ta)
    | ok t hm hg hp he =>
      injection hm with hm
      subst hm he
      rw [Tryz.neq26_n, boolV_bool, bcase_false]
      refine hp.text hg fun h11 f11 => ?_
      refine ((hpa.fm f810).fm f11).text hga fun h12 f12 => ?_
      rw [reads_sne, boolV_bool, show (!decide (writeU ta = writeU ta)) = false from by simp, bcase_false]
      exact f11.self f12
  intro h13 f13
  have f013 := f010.self f13
  have f813 := f810.self f13
  have s13 := f013.size
  have two : ∀ mid : List Op, (mid = [] ∨ mid = [kwA]) → parseM 203 (inL a ++ (mid ++ inL b)) = .ok (if ca || cb then twoU 1 ua ub else twoU 1 (twoU 1 ua ub) printU) := by
    intro mid hmid
    refine parse_is (by simp [inL]) (by rcases hmid with rfl | rfl <;> simp [inL_len] <;> omega) ?_ (in_two hmid hla hlb hsa hsb hea heb)
    intro s hs
    simp only [List.mem_append] at hs
    rcases hs with hs | hs | hs
    · exact sh_in hsa s hs
    · rcases hmid with rfl | rfl
      · cases hs
      · rw [List.mem_singleton] at hs; subst hs; simp [kwA]
    · exact sh_in hsb s hs
  -- side by side
  refine in_call (ha.fm f013) ha0 (by omega) fun v14 h14 r14 f14 => ?_
  have f014 := f013.self f14
  have s14 := f14.size
  refine in_call (hb.fm f014) hb0 (by omega) fun v15 h15 r15 f15 => ?_
  have f015 := f014.self f15
  have s15 := f15.size
  refine push_ops (l := inL a) (m := inL b) (r14.frame fun k _ hk => f15.same k hk (by omega)) (by omega) (by rw [inL_len, inL_len]; omega) r15.is.is (by simp [inL]) fun v16 h16 r16 f16 => ?_
  have f016 : Fm h0.size h0.size h0 h16 := f015.trans ((f16 _).less (by omega))
  have s16 := f016.size
  have f1316 : Fm h13.size h13.size h13 h16 := (f14.self f15).trans (f16 _)
  refine parse_any (S := S) (k := 203) (by omega) (gl.fm f016 hn hn) (by omega) r16.is.is fun h17 s e17 f17 ps => ?_
  have m2 := two [] (.inl rfl)
  rw [List.nil_append] at m2
  rw [m2] at ps
  rw [reads_ext0, reads_ext1]
  have f017 := f016.self f17
  have s17 := f017.size
  have f1317 := f1316.self f17
  -- with -a between
  refine in_call (ha.fm f017) ha0 (by omega) fun v18 h18 r18 f18 => ?_
  have f018 := f017.self f18
  have s18 := f18.size
  refine push_str1 (y := kwA) rfl r18 s18 (by rw [inL_len]; omega) fun v19 h19 r19 f19 => ?_
  have s19 := (f19 h18.size).size
  have f1719 : Fm h17.size h17.size h17 h19 := f18.trans (f19 _)
  have f019 := f017.self f1719
  refine in_call (hb.fm f019) hb0 (by omega) fun v20 h20 r20 f20 => ?_
  have s20 := f20.size
  have f1720 := f1719.self f20
  refine push_ops (r19.frame fun k _ hk => f20.same k hk (by omega)) (by omega) (by simp [inL_len]; omega) r20.is.is (by simp [inL]) fun v21 h21 r21 f21 => ?_
  have f1721 : Fm h17.size h17.size h17 h21 := f1720.trans (f21 _)
  have f021 := f017.self f1721
  have s21 := f021.size
  have m3 := two [kwA] (.inr rfl)
  rw [← List.append_assoc] at m3
  refine parse_any (S := S) (k := 203) (by omega) (gl.fm f021 hn hn) (by omega) r21.is.is fun h22 t e22 f22 pt => ?_
  rw [m3] at pt
  rw [reads_ext0, reads_ext1]
  have f022 := f021.self f22
  have s22 := f022.size
  have f1722 := f1721.self f22
  cases ps with
  | bad hm _ => exact absurd rfl (hm _)
  | ok ts hms hgs hps hes =>
    cases pt with
    | bad hm _ => exact absurd rfl (hm _)
    | ok tt hmt hgt hpt het =>
      injection hms with hms
      injection hmt with hmt
      subst hms hmt hes het
      rw [Tryz.eql26_n, boolV_bool, bcase_true, Tryz.eql26_n, boolV_bool, bcase_true]
      refine (hps.fm f1722).text hgs fun h23 f23 => ?_
      refine (hpt.fm f23).text hgt fun h24 f24 => ?_
      rw [reads_seq, boolV_bool, decide_eq_true rfl, bcase_true]
      have f2224 := f23.self f24
      have f1724 := f1722.self f2224
      have f024 := f022.self f2224
      refine (((hpb.fm f813).fm f1317).fm f1724).text hgb fun h25 f25 => ?_
      rw [reads_slen Tryz.underlying9, reads_gt, boolV_bool]
      have hpos : 0 < (writeU tb).length := by
        cases tb with
        | node k tx sg nm by_ args kids =>
          simp only [writeU]
          split
          · simp
          · split
            · simp
            · rw [inPar_len]; omega
      rw [decide_eq_true (by omega), bcase_true]
      exact aw (f024.self f25)
end Rt
end Go.Proofs
