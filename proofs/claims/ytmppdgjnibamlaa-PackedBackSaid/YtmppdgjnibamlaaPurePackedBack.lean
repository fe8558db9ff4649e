/- PackedBack: plain. -/
import Derived.Test.YtmppdgjnibamlaaPbY
namespace Go.Proofs.Ytmppdgjnibamlaa.Pure
open Go.RowKit Go.Proofs.Ytmppdgjnibamlaa.PPb Go.Proofs.YtmppdgjnibamlaaW.PrintWords Go.Proofs.YtmppdgjnibamlaaW.PrintLast Go.Proofs.Ytmppdgjnibamlaa.Pag
set_option linter.unusedVariables false
set_option linter.unusedSimpArgs false

theorem back_j1 (l more : List Int) (hl : l.length ≤ 2000) (hm : more.length ≤ 1000) (hb : more.all byteB = true) : Ev (fun k => foundrylaw11_PackedBack.j1 k l more) true := by
  by_cases hin : l.all inC = true
  · have hC : packed_Changes.f l = some (packs kindOf 64 encC l, 0) := by unfold packed_Changes.f; rw [if_pos ⟨hin, hl⟩]
    have hlen := packsC_len l
    have hall : (packs kindOf 64 encC l ++ more).all byteB = true := by rw [List.all_append, packC_bytes l hin, hb]; rfl
    have ht := PC_tell hall (by rw [List.length_append]; omega) (l.length : Int)
    rw [back_changes l more hin hl] at ht
    refine Ev.step (fun k => by rw [foundrylaw11_PackedBack.j1, hC, Option.bind_some, if_pos rfl, if_pos (by simp; omega), Option.bind_some, if_pos (by simp; omega), List.nil_append]) (Ev.bind ht ?_)
    simp only [if_true]
    exact Ev.bind (sameInts_self l (by omega)) (Ev.now _)
  · have hC : packed_Changes.f l = some (([] : List Int), 1) := by unfold packed_Changes.f; rw [if_neg (fun h => hin h.1)]
    exact Ev.step (f := fun _ => some true) (fun k => by rw [foundrylaw11_PackedBack.j1, hC, Option.bind_some, if_neg (by simp)]; rfl) (Ev.now _)

theorem PackedBack : foundrylaw11_PackedBack.Pure := by
  intro l c more hm0 hs0 hw0 hm1 hs1 hw1 hm2 hs2 hw2
  refine Ev.rounds ?_
  unfold foundrylaw11_PackedBack.f
  simp only [awakeOk, Option.bind_some, if_true]
  have hquit : Ev (fun k => foundrylaw11_PackedBack.j0 k l c more true) true := Ev.step (fun k => by rw [foundrylaw11_PackedBack.j0, if_pos rfl, awakeOk, Option.bind_some]) (Ev.now _)
  by_cases hl : (l.length : Int) > 2000
  · simp only [if_pos hl]; exact hquit
  · simp only [if_neg hl]
    by_cases hl2 : (c.length : Int) > 2000
    · simp only [if_pos hl2]; exact hquit
    · simp only [if_neg hl2]
      by_cases hl3 : (more.length : Int) > 1000
      · rw [show decide ((more.length : Int) > 1000) = true by simp; omega]; exact hquit
      · rw [show decide ((more.length : Int) > 1000) = false by simp; omega]
        have hb := bytes_of hw2
        have hj1 := back_j1 c more (by omega) (by omega) hb
        by_cases hr : risingB l = true
        · have hP : packed_Points.f l = some (packP l, 0) := by unfold packed_Points.f packP; rw [if_pos hr]
          have hlen := packP_len l
          have hall : (packP l ++ more).all byteB = true := by rw [List.all_append, packP_bytes l hr, hb]; rfl
          have ht := P_tell hall (by rw [List.length_append]; omega)
          rw [back_points l more hr] at ht
          refine Ev.step (fun k => by rw [foundrylaw11_PackedBack.j0, if_neg (by simp), hP, Option.bind_some, if_pos rfl, if_pos (by simp; omega), Option.bind_some, if_pos (by simp; omega), List.nil_append]) (Ev.bind ht ?_)
          simp only [if_true]
          refine Ev.bind (sameInts_self l (by omega)) ?_
          simp only [if_true]
          exact hj1
        · have hP : packed_Points.f l = some (([] : List Int), 1) := by unfold packed_Points.f; rw [if_neg hr]
          exact Ev.step (fun k => by rw [foundrylaw11_PackedBack.j0, if_neg (by simp), hP, Option.bind_some, if_neg (by simp)]) hj1
end Go.Proofs.Ytmppdgjnibamlaa.Pure
