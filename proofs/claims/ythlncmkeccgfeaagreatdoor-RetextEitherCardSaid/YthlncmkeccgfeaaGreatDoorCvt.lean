/- A part of the proofs over this seat: Cvt. -/
import Derived.Test.YthlncmkeccgfeaaGreatDoorQuo
import Derived.Lib.ConvBytes
set_option linter.unusedVariables false
set_option linter.unusedSimpArgs false
set_option maxRecDepth 100000
namespace Go.Proofs
open Go.Vcg
namespace Rt
variable {S : Glb} {n : Nat} {h : Heap} {r : Nat} {bv : Value} {l : List UInt8} {p : Nat} {ext : Bool} {op gr : Nat} {R : Value → Heap → Prop} {E : List PanicEntry → Heap → Prop}

theorem runs_sbytes {K : Value → Heap → Prop}
    (hk : ∀ v h' c, Fm h.size h.size h h' → IsBytes h' v l → v = .slice (some ⟨h.size, 0, none⟩) l.length c → h.size < h'.size → K v h') : Runs Tryz.prog (vS (convert 9 29 (str l))) h K E := by
  intro w hw
  subst hw
  have hsz : (⟨l.toArray⟩ : ByteArray).size = l.length := by simp [ByteArray.size]
  have e := Go.Lib.run_convert_string_bytes (P := Tryz.prog) w 9 29 5 ⟨l.toArray⟩ Tryz.underlying9 Tryz.underlying29 Tryz.underlying5
  rw [hsz] at e
  unfold str
  simp only [vS, Sem.run_bind, e, Result.andThen_ok, Sem.run_pure, uponH]
  refine ⟨⟨rfl, rfl, rfl⟩, hk _ _ _ ⟨by rw [Go.Lib.bytesWorld_size]; omega, fun k hk _ => Go.Lib.bytesWorld_at_old w 5 _ k hk⟩ ?_ rfl (by rw [Go.Lib.bytesWorld_size]; omega)⟩
  refine .inr ⟨w.heap.size, 0, _, rfl, ?_, fun i hi => ?_⟩
  · have := grownCap_ge w l.length 0 5
    exact this
  · have := Go.Lib.bytesWorld_cell w 5 ⟨l.toArray⟩ i (by rw [hsz]; exact hi)
    rw [cell_eq] at this
    rw [Nat.zero_add, this]
    simp [List.getD, hi]
end Rt
end Go.Proofs
