/- OutlineCuts: plain. -/
import Derived.Test.YtmppdgjnibamlabPOlx14
import Derived.Test.YtmppdgjnibamlabOlV
namespace Go.Proofs.Ytmppdgjnibamlab.Pure
open Go.RowKit Go.Proofs.Ytmppdgjnibamlab.POl Go.Proofs.YtmppdgjnibamlabW.PrintWords Go.Proofs.YtmppdgjnibamlabW.PrintLast Go.Proofs.Ytmppdgjnibamlab.Pag
set_option linter.unusedVariables false
set_option linter.unusedSimpArgs false

theorem wrO_long {cs : List (List Pt)} {ps : List Pr} {w : List Int} (h : wrO cs ps = (w, 0)) : 2 ≤ w.length ∧ w.length ≤ 1000000 := by
  obtain ⟨hf, hz⟩ := wrO_zero h
  have hfa := fmO_facts hf
  split at hz
  · have hp := hfa.par
    have hl : ∀ l : List Pr, (l.flatMap parB).length = 6 * l.length := by
      intro l
      induction l with
      | nil => rfl
      | cons x r ih => rw [List.flatMap_cons, List.length_append, parB_len, ih, List.length_cons]; omega
    rw [hz, wrP, List.length_append, List.length_append, len_be2, len_be2, hl]
    omega
  · obtain ⟨h1, h2, h3⟩ := hz
    have hn := hfa.pts
    have hm := hfa.con
    have he : ∀ l : List Int, (l.flatMap (fun e => be e 2)).length = 2 * l.length := by
      intro l
      induction l with
      | nil => rfl
      | cons x r ih => rw [List.flatMap_cons, List.length_append, len_be2, ih, List.length_cons]; omega
    have hd : ∀ l : List Int, (l.flatMap dif).length ≤ 2 * l.length := by
      intro l
      induction l with
      | nil => exact Nat.le_refl _
      | cons x r ih => have := dif_len x; rw [List.flatMap_cons, List.length_append, List.length_cons]; omega
    have hr := rle_len ((stp 0 0 cs.flatten).map flagOf).length ((stp 0 0 cs.flatten).map flagOf)
    have hx := hd ((stp 0 0 cs.flatten).map (·.1))
    have hy := hd ((stp 0 0 cs.flatten).map (·.2.1))
    rw [List.length_map, stp_len] at hr hx hy
    have hr2 : (rle ((stp 0 0 cs.flatten).map flagOf)).length ≤ 2 * cs.flatten.length := by
      unfold rle
      rw [List.length_map, stp_len]
      exact hr
    rw [h2, wrC, List.length_append, List.length_append, List.length_append, List.length_append, len_be2, he, endsO_len]
    omega
theorem OutlineCuts (cs : List (List Pt)) (ps : List Pr) (a1 a2 : Int) {QC : List Pt → Prop} {Q1 : Prop} (h : (cs.length * 24 ≤ 140737488351232 ∧ ∀ c ∈ cs, (c.length * 24 ≤ 140737488351232 ∧ QC c)) ∧ (ps.length * 24 ≤ 140737488351232 ∧ Q1)) (h1 : (Lit.int .u16 a1).wf = true) (h2 : (Lit.int .u8 a2).wf = true) : ∃ k : Nat, foundrylaw12_OutlineCuts.f k cs ps a1 a2 = some true := by
  refine Ev.rounds (g := fun k => foundrylaw12_OutlineCuts.f k cs ps a1 a2) ?_
  unfold foundrylaw12_OutlineCuts.f
  simp only [awake12, Option.bind_some, if_true]
  obtain ⟨r, hev, hr⟩ := few12 cs ps (by omega) (fun c hc => by have := (h.1.2 c hc).1; omega)
  refine Ev.bind hev ?_
  cases r with
  | false => exact Ev.step (fun k => by rw [foundrylaw12_OutlineCuts.j0, if_pos (by decide), awake12]; rfl) (Ev.now _)
  | true =>
    have ht := hr rfl
    have hcl : ∀ c ∈ cs, c.length ≤ 1000000000000 := fun c hc => by have := totC_mem cs c hc; omega
    refine Ev.step (fun k => by rw [foundrylaw12_OutlineCuts.j0, if_neg (by decide), Write_f hcl, Option.bind_some]) ?_
    by_cases hz : (wrO cs ps).2 = 0
    · obtain ⟨w, hw⟩ : ∃ w, wrO cs ps = (w, 0) := ⟨(wrO cs ps).1, Prod.ext rfl hz⟩
      rw [hw]
      simp only [if_true]
      obtain ⟨hl2, hl6⟩ := wrO_long hw
      have hwa : w.all byteB = true := by have := wrO_all cs ps; rw [hw] at this; exact this
      have ha1 : 0 ≤ a1 ∧ a1 ≤ 65535 := by
        simp [Lit.wf, IntKind.min, IntKind.max, IntKind.bits, IntKind.signed] at h1
        exact h1
      have ha2 : 0 ≤ a2 ∧ a2 ≤ 255 := by
        simp [Lit.wf, IntKind.min, IntKind.max, IntKind.bits, IntKind.signed] at h2
        exact h2
      have W1 : wrap64 a1 = a1 := by unfold wrap64; omega
      obtain ⟨t, htm⟩ : ∃ t : Nat, Int.tmod (wrap64 a1) (w.length : Int) = (t : Int) := by
        rw [W1, Int.tmod_eq_emod_of_nonneg ha1.1]
        exact ⟨(a1 % (w.length : Int)).toNat, by have := Int.emod_nonneg a1 (show (w.length : Int) ≠ 0 by omega); omega⟩
      have hlt : t < w.length := by
        have h3 := Int.emod_lt_of_pos a1 (show 0 < (w.length : Int) by omega)
        rw [W1, Int.tmod_eq_emod_of_nonneg ha1.1] at htm
        omega
      have whole := read_rt hw (rest := []) rfl
      rw [List.append_nil, if_pos rfl] at whole
      have hta : (w.take t).all byteB = true := by rw [List.all_eq_true] at hwa ⊢; exact fun x hx => hwa x (List.mem_of_mem_take hx)
      have hda : (w.drop t).all byteB = true := by rw [List.all_eq_true] at hwa ⊢; exact fun x hx => hwa x (List.mem_of_mem_drop hx)
      have cut : Ev (fun k => outline_Read.f k (w.take t)) ([], [], 2) := by
        rcases read_or hta with h3 | ⟨cs', ps', h3, h4, _⟩
        · exact h3
        · have h5 := read_rt h4 (rest := w.drop t) hda
          rw [List.take_append_drop, if_neg (fun e => by have := congrArg List.length e; rw [List.length_drop] at this; simp at this; omega)] at h5
          have h6 := Ev.uniq whole h5
          exact absurd (show (0 : Int) = 2 from congrArg (fun x => x.2.2) h6) (by decide)
      have more := read_rt hw (rest := [a2]) (by simp [byteB]; omega)
      rw [if_neg (by simp)] at more
      refine Ev.congr (fun k => by rw [if_neg (show ¬ ((w.length : Int) = 0) by omega), htm, if_pos (show (0 : Int) ≤ (t : Int) by omega), if_pos (show (t : Int) ≤ (w.length : Int) by omega), Int.toNat_natCast]) ?_
      refine Ev.bind cut ?_
      refine Ev.congr (fun k => by rw [if_pos (show ([] : List Int).length + w.length < 140737488355328 by simp only [List.length_nil]; omega), Option.bind_some, List.nil_append, if_pos (show w.length < 140737488355328 by omega)]) ?_
      refine Ev.bind more ?_
      exact Ev.congr (fun k => by rw [if_pos rfl]; rfl) (Ev.now true)
    · exact Ev.congr (fun k => by rw [if_neg hz]) (Ev.now _)
end Go.Proofs.Ytmppdgjnibamlab.Pure
