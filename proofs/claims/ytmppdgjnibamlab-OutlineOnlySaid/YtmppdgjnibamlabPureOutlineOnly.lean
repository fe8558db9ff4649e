/- OutlineOnly: plain. -/
import Derived.Test.YtmppdgjnibamlabPOlx12
import Derived.Test.YtmppdgjnibamlabOlZ
namespace Go.Proofs.Ytmppdgjnibamlab.Pure
open Go.RowKit Go.Proofs.Ytmppdgjnibamlab.POl Go.Proofs.YtmppdgjnibamlabW.PrintWords Go.Proofs.YtmppdgjnibamlabW.PrintLast Go.Proofs.Ytmppdgjnibamlab.Pag
set_option linter.unusedVariables false
set_option linter.unusedSimpArgs false

theorem wf_bytes {l : List Int} (h : ∀ x ∈ l, (Lit.int .u8 x).wf = true) : l.all byteB = true := by
  rw [List.all_eq_true]
  intro x hx
  have := h x hx
  simp [Lit.wf, IntKind.min, IntKind.max, IntKind.bits, IntKind.signed] at this
  simp [byteB]; omega
theorem same_self (l : List Int) (hl : l.length ≤ 1000000000) : Ev (fun k => foundryref04_Same.f k l l) true := by
  unfold foundryref04_Same.f
  simp only [if_true]
  have h : ∀ d i : Nat, i + d = l.length → Ev (fun k => foundryref04_Same.l0 k l l (i : Int)) true := by
    intro d
    induction d with
    | zero => intro i hi; exact Ev.step (fun k => by rw [foundryref04_Same.l0, if_neg (by omega)]) (Ev.now _)
    | succ d ih =>
      intro i hi
      exact Ev.step (fun k => by rw [foundryref04_Same.l0, if_pos (by omega), if_pos (by omega), if_pos (by omega), if_pos rfl, wnat (by omega)]) (ih (i + 1) (by omega))
  exact h l.length 0 (by omega)
theorem same_none : Ev (fun k => foundryref12_Same.f k [] [] [] []) true := by
  unfold foundryref12_Same.f
  simp only [if_true]
  refine Ev.step (fun k => by rw [foundryref12_Same.j0, if_neg (by decide)]) ?_
  refine Ev.step (fun k => by rw [foundryref12_Same.l0, if_neg (by simp)]) ?_
  exact Ev.step (fun k => by rw [foundryref12_Same.l2, if_neg (by simp)]) (Ev.now _)
theorem awake_yes : foundrylaw12_awake.f = some true := by
  unfold foundrylaw12_awake.f
  rw [Write_f (by intro c hc; obtain rfl := List.mem_singleton.1 hc; decide)]
  decide +kernel
theorem OutlineOnly : foundrylaw12_OutlineOnly.Pure := by
  intro b _ _ hw
  refine Ev.rounds ?_
  unfold foundrylaw12_OutlineOnly.f
  simp only [awake_yes, Option.bind_some, if_true]
  by_cases hl : (b.length : Int) > 4000
  · rw [decide_eq_true hl]
    exact Ev.step (fun k => by rw [foundrylaw12_OutlineOnly.j0, if_pos rfl, awake_yes]; rfl) (Ev.now _)
  · rw [decide_eq_false hl]
    have hb := wf_bytes hw
    refine Ev.step (fun k => by rw [foundrylaw12_OutlineOnly.j0, if_neg (by decide)]) ?_
    rcases read_or hb with h | ⟨cs, ps, h, hz, hc⟩
    · refine Ev.bind h ?_
      simp only [show ¬ ((2 : Int) = 0) by decide, if_false, if_true]
      exact Ev.bind same_none (Ev.now _)
    · refine Ev.bind h ?_
      simp only [if_true]
      have hcl : ∀ c ∈ cs, c.length ≤ 1000000000000 := fun c hx => by have := hc c hx; omega
      refine Ev.congr (fun k => by rw [Write_f hcl, hz, Option.bind_some, if_pos rfl]) ?_
      have hf := formed_ev cs ps hcl
      rw [(wrO_zero hz).1] at hf
      refine Ev.bind hf ?_
      simp only [if_true]
      exact Ev.bind (same_self b (by omega)) (Ev.now _)
end Go.Proofs.Ytmppdgjnibamlab.Pure
