/- SfntBack: plain. -/
import Derived.Test.YtmppdgjnibamlaaPSfx3
import Derived.Test.YtmppdgjnibamlaaSfV
namespace Go.Proofs.Ytmppdgjnibamlaa.Pure
open Go.RowKit Go.Proofs.Ytmppdgjnibamlaa.PSf Go.Proofs.YtmppdgjnibamlaaW.PrintWords Go.Proofs.Ytmppdgjnibamlaa.Pag
set_option linter.unusedVariables false
set_option linter.unusedSimpArgs false

theorem wfb_all {l : List Int} (h : ∀ x ∈ l, (Lit.int .u8 x).wf = true) : l.all byteB = true := by
  rw [List.all_eq_true]
  intro x hx
  have := h x hx
  simp [Lit.wf, IntKind.min, IntKind.max, IntKind.bits, IntKind.signed] at this
  simp [byteB]; omega
theorem same_own (l : List Int) (hl : l.length ≤ 1000000000) : Ev (fun k => foundryref04_Same.f k l l) true := by
  unfold foundryref04_Same.f
  simp only [if_true]
  have h : ∀ d i : Nat, i + d = l.length → Ev (fun k => foundryref04_Same.l0 k l l (i : Int)) true := by
    intro d
    induction d with
    | zero => intro i hi; exact Ev.step (fun k => by rw [foundryref04_Same.l0, if_neg (by omega)]) (Ev.now _)
    | succ d ih =>
      intro i hi
      have w1 : wrap64 ((i : Int) + 1) = ((i + 1 : Nat) : Int) := by unfold wrap64; omega
      exact Ev.step (fun k => by rw [foundryref04_Same.l0, if_pos (by omega), if_pos (by omega), if_pos (by omega), if_pos rfl, w1]) (ih (i + 1) (by omega))
  exact h l.length 0 (by omega)
theorem find_own : ∀ (l : List S72), apart l → ∀ t ∈ l, findP t.f0 l = (t.f1, 0)
  | [], _, t, ht => by simp at ht
  | x :: r, ha, t, ht => by
    unfold findP
    obtain ⟨h1, h2⟩ := List.pairwise_cons.1 ha
    by_cases he : x.f0.toList = t.f0.toList
    · rw [if_pos he]
      have e := toList_inj he
      rcases List.mem_cons.1 ht with rfl | ht'
      · rfl
      · exact absurd e (h1 t ht')
    · rw [if_neg he]
      rcases List.mem_cons.1 ht with rfl | ht'
      · exact absurd rfl he
      · exact find_own r h2 t ht'
theorem back_loop (l m : List S72) (hf : fitsF l = true) (ha : apart l) (hm : ∀ t ∈ m, t ∈ l ∧ t.f1.length ≤ 1048576) (hri : rising m) (hn : m.length ≤ 32) : ∀ d i : Nat, i + d = m.length →
    Ev (fun k => foundrylaw05_SfntBack.l0 k l m (i : Int)) true := by
  intro d
  induction d with
  | zero => intro i hi; exact Ev.step (fun k => by rw [foundrylaw05_SfntBack.l0, if_neg (by omega)]) (Ev.now _)
  | succ d ih =>
    intro i hi
    have hlt : i < m.length := by omega
    have e : rd_T72 m (i : Int) = m[i] := by simp [rd_T72, hlt]
    have hmi := hm m[i] (List.getElem_mem hlt)
    have hfind : sfnt_Find.f l m[i].f0 = some (m[i].f1, 0) := by unfold sfnt_Find.f; rw [if_pos hf, find_own l ha _ hmi.1]
    have w1 : wrap64 ((i : Int) + 1) = ((i + 1 : Nat) : Int) := by unfold wrap64; omega
    refine Ev.step (fun k => by rw [foundrylaw05_SfntBack.l0, if_pos (by omega), if_pos (by omega), e, hfind, Option.bind_some, if_pos rfl, w1]) ?_
    refine Ev.bind (same_own m[i].f1 (by omega)) ?_
    simp only [if_true]
    by_cases h0 : i = 0
    · subst h0
      exact Ev.congr (fun k => by rw [if_neg (by omega)]) (ih 1 (by omega))
    · have w2 : wrap64 ((i : Int) - 1) = ((i - 1 : Nat) : Int) := by unfold wrap64; omega
      have e2 : rd_T72 m ((i - 1 : Nat) : Int) = m[i - 1]'(by omega) := by
        unfold rd_T72
        rw [Int.toNat_natCast]
        simp [show i - 1 < m.length by omega]
      have hb : Op.bytesLess (m[i - 1]'(by omega)).f0.toList m[i].f0.toList = true := (List.pairwise_iff_getElem.1 hri) (i - 1) i (by omega) hlt (by omega)
      exact Ev.congr (fun k => by rw [if_pos (by omega), w2, if_pos (by omega), if_pos (by omega), e2, if_pos hb]) (ih (i + 1) (by omega))
theorem SfntBack (l : List S72) (h0 : l.length * 40 ≤ 140737488351232 ∧ ∀ x ∈ l, x.f0.size ≤ 140737488351232 ∧ (x.f1.length * 1 ≤ 140737488351232 ∧ ∀ y ∈ x.f1, (Lit.int .u8 y).wf = true)) :
    ∃ k : Nat, foundrylaw05_SfntBack.f k l = some true := by
  refine Ev.rounds (g := fun k => foundrylaw05_SfntBack.f k l) ?_
  unfold foundrylaw05_SfntBack.f
  simp only [show foundrylaw05_awake.f = some true from rfl, Option.bind_some, if_true]
  have no : Ev (fun k => foundrylaw05_SfntBack.j0 k l true) true := Ev.step (fun k => by rw [foundrylaw05_SfntBack.j0, if_pos rfl]; rfl) (Ev.now _)
  obtain ⟨r, hev, hr⟩ := few_ev l (by omega)
  refine Ev.bind hev ?_
  have hf : fits l = true := by
    unfold fits
    rw [Bool.and_eq_true, decide_eq_true_eq, List.all_eq_true]
    exact ⟨by omega, fun t ht => decide_eq_true (h0.2 t ht).1⟩
  have hfF : fitsF l = true := by
    unfold fitsF
    rw [Bool.and_eq_true, decide_eq_true_eq, List.all_eq_true]
    exact ⟨by omega, fun t ht => decide_eq_true (by have := (h0.2 t ht).2.1; omega)⟩
  have hby : bytesT l := fun t ht => wfb_all (h0.2 t ht).2.2
  have hp : sfnt_Pack.f l = some (packP l) := pack_eq hf
  have hfo : sfnt_Formed.f l = some (fm l) := by unfold sfnt_Formed.f; rw [if_pos hf]
  cases r with
  | false => exact no
  | true =>
    simp only [Bool.not_true]
    refine Ev.step (fun k => by rw [foundrylaw05_SfntBack.j0, if_neg (by simp), hp, Option.bind_some]) ?_
    by_cases hm : fm l = true
    · by_cases hl : (lay (sortT l)).length ≤ 1048576
      · have e : packP l = (lay (sortT l), 0) := by unfold packP; rw [if_pos hm, if_pos hl]
        rw [e]
        simp only [if_true]
        have hun := unpackP_of_pack e
        have hall : (lay (sortT l)).all byteB = true := lay_all (fun t ht => hby t ((sortT_perm l).mem_iff.1 ht))
        have hu := unpack_ev hall hl
        rw [hun] at hu
        refine Ev.bind hu ?_
        simp only [if_true]
        rw [sortT_len]
        refine Ev.step (fun k => by rw [foundrylaw05_SfntBack.j1, if_neg (by simp)]) ?_
        exact back_loop l (sortT l) hfF (fm_apart hm) (fun t ht => ⟨(sortT_perm l).mem_iff.1 ht, (fm_ok hm t ((sortT_perm l).mem_iff.1 ht)).2⟩) (sort_rising (fm_apart hm)) (by rw [sortT_len]; exact (fm_len hm).2.1) (sortT l).length 0 (by omega)
      · have e : packP l = ([], 3) := by unfold packP; rw [if_pos hm, if_neg hl]
        rw [e]
        exact Ev.congr (fun k => by rw [if_neg (by simp), if_pos (by simp), hfo, Option.bind_some, hm]; rfl) (Ev.now true)
    · have hm' : fm l = false := by simpa using hm
      have e : packP l = ([], 1) := by unfold packP; rw [if_neg hm]
      rw [e]
      exact Ev.congr (fun k => by rw [if_neg (by simp), if_pos (by simp), hfo, Option.bind_some, hm']; rfl) (Ev.now true)
end Go.Proofs.Ytmppdgjnibamlaa.Pure
