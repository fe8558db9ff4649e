/- PackedChanges: plain. -/
import Derived.Test.YtmppdgjnibamlaaPcZ
namespace Go.Proofs.Ytmppdgjnibamlaa.Pure
open Go.RowKit Go.Proofs.Ytmppdgjnibamlaa.PPc Go.Proofs.YtmppdgjnibamlaaW.PrintWords Go.Proofs.YtmppdgjnibamlaaW.PrintLast Go.Proofs.Ytmppdgjnibamlaa.Pag
set_option linter.unusedVariables false
set_option linter.unusedSimpArgs false

theorem readC_len {b : List Int} : ∀ {f n a : Nat} {q : List Int × Nat}, a ≤ b.length → readC b f n a = some q → q.1.length = n ∧ q.2 ≤ b.length
  | 0, n, a, q, ha, h => by
    simp only [readC] at h
    split at h
    · injection h with h; subst h; simp_all
    · cases h
  | f + 1, n, a, q, ha, h => by
    simp only [readC] at h
    split at h
    · injection h with h; subst h; simp_all
    · split at h
      · rename_i hs
        cases hr : runC b (rd b (a : Int) / 64) (cntC (rd b (a : Int))) (a + 1) with
        | none => rw [hr] at h; cases h
        | some r =>
          rw [hr] at h
          simp only [] at h
          obtain ⟨t, ht, rfl⟩ := Option.map_eq_some_iff.1 h
          have h1 := runC_len (by omega) hr
          have h2 := readC_len h1.2 ht
          simp only [List.length_append, h1.1, h2.1]
          omega
      · cases h
theorem tellC_len (b : List Int) (n : Int) : (tellC b n).1.length ≤ 2000 := by
  unfold tellC
  split
  · simp
  · cases h : readC b n.toNat n.toNat 0 with
    | none => simp [endC]
    | some q =>
      have := (readC_len (by omega) h).1
      simp [endC]
      omega
theorem PackedChanges : foundrylaw11_PackedChanges.Pure := by
  intro l b count hm hs hw hm2 hs2 hw2 hcw
  refine Ev.rounds ?_
  unfold foundrylaw11_PackedChanges.f
  simp only [awakeOk, Option.bind_some, if_true]
  by_cases hl : (l.length : Int) > 3000
  · simp only [if_pos hl]
    exact Ev.step (fun k => by rw [foundrylaw11_PackedChanges.j0, if_pos rfl, awakeOk, Option.bind_some]) (Ev.now _)
  · simp only [if_neg hl]
    by_cases hl2 : (b.length : Int) > 6000
    · rw [show decide ((b.length : Int) > 6000) = true by simp; omega]
      exact Ev.step (fun k => by rw [foundrylaw11_PackedChanges.j0, if_pos rfl, awakeOk, Option.bind_some]) (Ev.now _)
    · rw [show decide ((b.length : Int) > 6000) = false by simp; omega]
      obtain ⟨r, hr, hre⟩ := ref_changes l (by omega)
      have hrl : r.1.length ≤ 1000000 := by
        have h := hr
        unfold packed_Changes.f at h
        injection h with h
        rw [← h]
        split
        · rename_i hg
          have h1 := packsC_len l
          have := hg.2
          show (packs kindOf 64 encC l).length ≤ 1000000
          omega
        · simp
      have hb := bytes_of hw2
      have htl := tellC_len b count
      refine Ev.step (fun k => by rw [foundrylaw11_PackedChanges.j0, if_neg (by simp), hr, Option.bind_some]) ?_
      refine Ev.bind hre (Ev.bind (PC_tell hb (by omega) count) (Ev.bind (RC_tell hb (by omega) count) ?_))
      simp only [if_true]
      refine Ev.bind (same_self _ hrl) ?_
      simp only [if_true]
      exact Ev.bind (sameInts_self _ (by omega)) (Ev.now _)
end Go.Proofs.Ytmppdgjnibamlaa.Pure
