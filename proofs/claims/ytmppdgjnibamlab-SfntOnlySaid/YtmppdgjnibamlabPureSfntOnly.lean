/- SfntOnly: plain. -/
import Derived.Test.YtmppdgjnibamlabPSfx4
import Derived.Test.YtmppdgjnibamlabSfU
namespace Go.Proofs.Ytmppdgjnibamlab.Pure
open Go.RowKit Go.Proofs.Ytmppdgjnibamlab.PSf Go.Proofs.YtmppdgjnibamlabW.PrintWords Go.Proofs.YtmppdgjnibamlabW.PrintLast Go.Proofs.Ytmppdgjnibamlab.Pag
set_option linter.unusedVariables false
set_option linter.unusedSimpArgs false

theorem same_self (l : List Int) (hl : l.length ≤ 1000000000) : Ev (fun k => foundryref04_Same.f k l l) true := by
  unfold foundryref04_Same.f
  simp only [if_true]
  have h : ∀ d i : Nat, i + d = l.length → Ev (fun k => foundryref04_Same.l0 k l l (i : Int)) true := by
    intro d
    induction d with
    | zero => intro i hi; exact Ev.step (fun k => by rw [foundryref04_Same.l0, if_neg (by omega)]) (Ev.now _)
    | succ d ih =>
      intro i hi
      have w1 : wrap64 ((i : Int) + 1) = ((i + 1 : Nat) : Int) := by unfold wrap64; omega
      exact Ev.step (fun k => by rw [foundryref04_Same.l0, if_pos (by omega), if_pos (by omega), if_pos (by omega), if_pos rfl, w1]) (ih (i + 1) (by omega))
  exact h l.length 0 (by omega)
theorem packP_zero {l : List S115} {b : List Int} (h : packP l = (b, 0)) : fm l = true ∧ b = lay (sortT l) ∧ b.length % 4 = 0 ∧ b.length ≤ 1048576 := by
  unfold packP at h
  split at h
  · rename_i hm
    split at h
    · rename_i hl
      have e : lay (sortT l) = b := congrArg Prod.fst h
      subst e
      exact ⟨hm, rfl, lay_four (fun t ht => fm_ok hm t ((sortT_perm l).mem_iff.1 ht)), hl⟩
    · exact absurd (show (3 : Int) = 0 from congrArg Prod.snd h) (by decide)
  · exact absurd (show (1 : Int) = 0 from congrArg Prod.snd h) (by decide)
theorem wf_bytes {l : List Int} (h : ∀ x ∈ l, (Lit.int .u8 x).wf = true) : l.all byteB = true := by
  rw [List.all_eq_true]
  intro x hx
  have := h x hx
  simp [Lit.wf, IntKind.min, IntKind.max, IntKind.bits, IntKind.signed] at this
  simp [byteB]; omega
theorem SfntOnly : foundrylaw05_SfntOnly.Pure := by
  intro b _ _ hw
  refine Ev.rounds ?_
  unfold foundrylaw05_SfntOnly.f
  simp only [show foundrylaw05_awake.f = some true from rfl, Option.bind_some, if_true]
  by_cases hl : (b.length : Int) > 20000
  · rw [decide_eq_true hl]
    exact Ev.step (fun k => by rw [foundrylaw05_SfntOnly.j0, if_pos rfl]; rfl) (Ev.now _)
  · rw [decide_eq_false hl]
    have hb := wf_bytes hw
    refine Ev.step (fun k => by rw [foundrylaw05_SfntOnly.j0, if_neg (by simp)]) ?_
    refine Ev.bind (unpack_ev hb (by omega)) ?_
    rcases unpackP_or hb with h | ⟨l, h, hp, h1, h2, h3⟩
    · rw [h]
      exact Ev.now _
    · rw [h]
      obtain ⟨hm, _, h4, _⟩ := packP_zero hp
      have hf := fits_of (l := l) (by omega) h2
      have e1 : sfnt_Pack.f l = some (b, 0) := by rw [← hp]; exact pack_eq hf
      have e2 : sfnt_Formed.f l = some true := by unfold sfnt_Formed.f; rw [if_pos hf, hm]
      simp only [if_true]
      refine Ev.congr (fun k => by rw [e1, Option.bind_some, if_pos rfl]) ?_
      refine Ev.bind (same_self b (by omega)) ?_
      simp only [if_true]
      exact Ev.congr (fun k => by rw [if_pos (by omega), e2, Option.bind_some]) (Ev.now _)
end Go.Proofs.Ytmppdgjnibamlab.Pure
