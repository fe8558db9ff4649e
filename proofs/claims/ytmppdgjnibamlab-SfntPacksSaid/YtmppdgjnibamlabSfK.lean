/- '<=' and '>' at strings, where '<' is known. -/
import Derived.Test.YtmppdgjnibamlabSfO
namespace Go.Proofs.Ytmppdgjnibamlab.Pag
theorem run_leq_of {P : Program} {a b : ByteArray} {v : Bool} (h : Op.bytesLess a.toList b.toList = v) (t : TypeId) (w : World) : (binOp .leq t (.string b) (.string a)).run P w = .ok (.bool !v) w := by
  have e : (Op.bytesLess b.toList a.toList || b.toList == a.toList) = !v := by
    rw [← h]
    cases h1 : Op.bytesLess a.toList b.toList with
    | true =>
      have h2 : Op.bytesLess b.toList a.toList = false := by
        cases h2 : Op.bytesLess b.toList a.toList with
        | false => rfl
        | true => exact absurd (bl_trans _ _ _ h1 h2) (by rw [bl_irrefl]; simp)
      have h3 : (b.toList == a.toList) = false := by
        rw [beq_eq_false_iff_ne]
        intro e
        rw [e, bl_irrefl] at h1
        cases h1
      rw [h2, h3]; rfl
    | false =>
      cases h2 : Op.bytesLess b.toList a.toList with
      | true => rfl
      | false => rw [bl_tri _ _ h2 h1]; simp
  simp [binOp, Op.stringOp, e]
theorem run_gtr_of {P : Program} {a b : ByteArray} {v : Bool} (h : Op.bytesLess a.toList b.toList = v) (t : TypeId) (w : World) : (binOp .gtr t (.string b) (.string a)).run P w = .ok (.bool v) w := by
  have e : (!(Op.bytesLess b.toList a.toList || b.toList == a.toList)) = v := by
    rw [← h]
    cases h1 : Op.bytesLess a.toList b.toList with
    | true =>
      have h2 : Op.bytesLess b.toList a.toList = false := by
        cases h2 : Op.bytesLess b.toList a.toList with
        | false => rfl
        | true => exact absurd (bl_trans _ _ _ h1 h2) (by rw [bl_irrefl]; simp)
      have h3 : (b.toList == a.toList) = false := by
        rw [beq_eq_false_iff_ne]
        intro e
        rw [e, bl_irrefl] at h1
        cases h1
      rw [h2, h3]; rfl
    | false =>
      cases h2 : Op.bytesLess b.toList a.toList with
      | true => rfl
      | false => rw [bl_tri _ _ h2 h1]; simp
  have e2 := congrArg (fun b => !b) e
  simp only [Bool.not_not] at e2
  simp [binOp, Op.stringOp, ← e]
end Go.Proofs.Ytmppdgjnibamlab.Pag
