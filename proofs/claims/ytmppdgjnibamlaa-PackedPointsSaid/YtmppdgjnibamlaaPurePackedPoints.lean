/- PackedPoints: plain. -/
import Derived.Test.YtmppdgjnibamlaaPkM
namespace Go.Proofs.Ytmppdgjnibamlaa.Pure
open Go.RowKit Go.Proofs.Ytmppdgjnibamlaa.PPk Go.Proofs.YtmppdgjnibamlaaW.PrintWords Go.Proofs.YtmppdgjnibamlaaW.PrintLast Go.Proofs.Ytmppdgjnibamlaa.Pag
set_option linter.unusedVariables false
set_option linter.unusedSimpArgs false

theorem PackedPoints : foundrylaw11_PackedPoints.Pure := by
  intro l b hm hs hw hm2 hs2 hw2
  refine Ev.rounds ?_
  unfold foundrylaw11_PackedPoints.f
  simp only [awakeOk, Option.bind_some, if_true]
  by_cases hl : (l.length : Int) > 3000
  · simp only [if_pos hl]
    exact Ev.step (fun k => by rw [foundrylaw11_PackedPoints.j0, if_pos rfl, awakeOk, Option.bind_some]) (Ev.now _)
  · simp only [if_neg hl]
    by_cases hl2 : (b.length : Int) > 6000
    · rw [show decide ((b.length : Int) > 6000) = true by simp; omega]
      exact Ev.step (fun k => by rw [foundrylaw11_PackedPoints.j0, if_pos rfl, awakeOk, Option.bind_some]) (Ev.now _)
    · rw [show decide ((b.length : Int) > 6000) = false by simp; omega]
      obtain ⟨r, hr, hre⟩ := ref_points l (by omega)
      have hrl : r.1.length ≤ 1000000 := by
        have h := hr
        unfold packed_Points.f at h
        injection h with h
        rw [← h]
        split
        · rename_i hris
          have hl3 : l.length ≤ 2000 := by simp only [risingB, Bool.and_eq_true, decide_eq_true_eq] at hris; exact hris.2
          have h1 := packsP_len (stepsOf l)
          rw [stepsOf_len] at h1
          have h2 := hdrP_len l.length
          simp only [List.length_append]; omega
        · simp
      have hb := bytes_of hw2
      have htl := tellP_len b hb
      refine Ev.step (fun k => by rw [foundrylaw11_PackedPoints.j0, if_neg (by simp), hr, Option.bind_some]) ?_
      refine Ev.bind hre (Ev.bind (P_tell hb (by omega)) (Ev.bind (R_tell hb (by omega)) ?_))
      simp only [if_true]
      refine Ev.bind (same_self _ hrl) ?_
      simp only [if_true]
      exact Ev.bind (sameInts_self _ (by omega)) (Ev.now _)
end Go.Proofs.Ytmppdgjnibamlaa.Pure
