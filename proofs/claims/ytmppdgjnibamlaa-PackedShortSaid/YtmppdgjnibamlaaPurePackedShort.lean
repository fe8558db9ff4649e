/- PackedShort: plain. -/
import Derived.Test.YtmppdgjnibamlaaPPkx1
namespace Go.Proofs.Ytmppdgjnibamlaa.Pure
open Go.RowKit Go.Proofs.Ytmppdgjnibamlaa.PPk Go.Proofs.YtmppdgjnibamlaaW.PrintWords Go.Proofs.YtmppdgjnibamlaaW.PrintLast Go.Proofs.Ytmppdgjnibamlaa.Pag
set_option linter.unusedVariables false
set_option linter.unusedSimpArgs false

theorem awake11 : foundrylaw11_awake.f = some true := by decide +kernel

theorem wrap64_in (x : Int) (h0 : -9223372036854775808 ≤ x) (h1 : x ≤ 9223372036854775807) : wrap64 x = x := by unfold wrap64; omega

theorem rd_zero (k i : Nat) (h : i < k) : rd (List.replicate k (0 : Int)) (i : Int) = 0 := by simp [rd, List.getD_eq_getElem?_getD, h]
theorem zeros_len : ∀ k : Nat, (packs kindOf 64 encC (List.replicate k 0)).length = (k + 63) / 64 := by
  intro k
  induction k using Nat.strongRecOn with
  | _ k ih =>
    by_cases hk : k = 0
    · subst hk; rfl
    · obtain ⟨n, hn⟩ : ∃ n, min k 64 = n := ⟨_, rfl⟩
      have hrun : Run kindOf 64 (List.replicate k 0) n := by
        refine ⟨by omega, by simp; omega, by omega, fun i hi => ?_, ?_⟩
        · rw [rd_zero k i (by omega)]
          have := rd_zero k 0 (by omega)
          rw [show ((0 : Nat) : Int) = 0 from rfl] at this
          rw [this]
        · simp; omega
      have h0 := rd_zero k 0 (by omega)
      rw [show ((0 : Nat) : Int) = 0 from rfl] at h0
      rw [packs_step (by omega) hrun, h0, List.length_append, List.drop_replicate, ih (k - n) (by omega)]
      have : (encC (kindOf 0) ((List.replicate k 0).take n)).length = 1 := by
        simp [encC, kindOf, b0]
      rw [this]
      omega

theorem short_loop (l : List Int) (a : Int) (hl : l.length ≤ 2000) (hw : ∀ x ∈ l, -32768 ≤ x ∧ x ≤ 32767) (k : Nat) : ∀ n j : Nat, j + n = l.length →
    foundrylaw11_PackedShort.l0 (n + (k + 1)) l a (l.take j) (j : Int) = foundrylaw11_PackedShort.l0 (k + 1) l a l (l.length : Int) := by
  intro n
  induction n with
  | zero => intro j hj; rw [show j = l.length by omega, List.take_length, Nat.zero_add]
  | succ n ih =>
    intro j hj
    have hlt : j < l.length := by omega
    have hx := hw _ (rd_in hlt)
    rw [show n + 1 + (k + 1) = (n + (k + 1)) + 1 by omega, foundrylaw11_PackedShort.l0, if_pos (by omega), if_pos (by omega), if_pos (by rw [List.length_take]; omega), wrap64_in _ (by omega) (by omega), wrap64_in _ (by omega) (by omega)]
    have e : l.take j ++ [rd l (j : Int)] = l.take (j + 1) := by rw [List.take_succ_eq_append_getElem hlt]; simp [rd, hlt]
    rw [e, show (j : Int) + 1 = ((j + 1 : Nat) : Int) by omega]
    exact ih (j + 1) (by omega)

theorem PackedShort : foundrylaw11_PackedShort.Pure := by
  intro l a hm hs hw ha
  have hwf : ∀ x ∈ l, -32768 ≤ x ∧ x ≤ 32767 := fun x hx => by
    have := hw x hx
    simp [Lit.wf, IntKind.min, IntKind.max, IntKind.bits, IntKind.signed] at this
    omega
  have haf : 0 ≤ a ∧ a ≤ 65535 := by
    simp [Lit.wf, IntKind.min, IntKind.max, IntKind.bits, IntKind.signed] at ha
    omega
  by_cases hl : l.length ≤ 2000
  · refine ⟨(l.length + (0 + 1)) + 1, ?_⟩
    unfold foundrylaw11_PackedShort.f
    rw [awake11, Option.bind_some, if_pos rfl, foundrylaw11_PackedShort.j0, if_neg (by simp; omega)]
    have h := short_loop l a hl hwf 0 l.length 0 (by omega)
    rw [List.take_zero, show ((0 : Nat) : Int) = 0 from rfl] at h
    rw [h, foundrylaw11_PackedShort.l0, if_neg (by omega)]
    have hin : l.all inC = true := List.all_eq_true.2 fun x hx => by have := hwf x hx; simp [inC]; omega
    have hC : packed_Changes.f l = some (packs kindOf 64 encC l, 0) := by unfold packed_Changes.f; rw [if_pos ⟨hin, hl⟩]
    obtain ⟨m, hm2⟩ : ∃ m : Nat, a.tmod 2001 = (m : Int) ∧ m ≤ 2000 := by
      have e : a.tmod 2001 = a % 2001 := Int.tmod_eq_emod_of_nonneg haf.1
      exact ⟨(a % 2001).toNat, by omega, by omega⟩
    have hZ : packed_Changes.f (List.replicate m 0) = some (packs kindOf 64 encC (List.replicate m 0), 0) := by
      unfold packed_Changes.f; rw [if_pos ⟨List.all_eq_true.2 fun x hx => by rw [List.eq_of_mem_replicate hx]; rfl, by simpa using hm2.2⟩]
    rw [hC, Option.bind_some, hm2.1, wrap64_in (m : Int) (by omega) (by omega), if_pos (by omega), Int.toNat_natCast, if_pos (by omega), hZ, Option.bind_some, if_pos rfl, if_pos rfl, wrap64_in (3 * (l.length : Int)) (by omega) (by omega),
      if_pos (by have := packsC_len l; show ((packs kindOf 64 encC l).length : Int) ≤ _; omega), show ((packs kindOf 64 encC (List.replicate m 0), (0 : Int)).1.length : Int) = (((m + 63) / 64 : Nat) : Int) by show ((packs kindOf 64 encC (List.replicate m 0)).length : Int) = _; rw [zeros_len], wrap64_in ((m : Int) + 63) (by omega) (by omega), Int.tdiv_eq_ediv_of_nonneg (by omega), wrap64_in _ (by omega) (by omega)]
    simp
  · refine ⟨1, ?_⟩
    unfold foundrylaw11_PackedShort.f
    rw [awake11, Option.bind_some, if_pos rfl, foundrylaw11_PackedShort.j0, if_pos (by simp; omega), awake11]
    rfl
end Go.Proofs.Ytmppdgjnibamlaa.Pure
