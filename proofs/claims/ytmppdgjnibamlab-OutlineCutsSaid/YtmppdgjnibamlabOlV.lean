/- Few, Same, awake of the laws of outlines, told plainly. -/
import Derived.Test.YtmppdgjnibamlabOlZ
import Derived.Test.YtmppdgjnibamlabPOlx15
import Derived.Test.YtmppdgjnibamlabPOlx6
import Derived.Test.YtmppdgjnibamlabPOlx11
namespace Go.Proofs.Ytmppdgjnibamlab.Pag
open Go.RowKit Go.Proofs.Ytmppdgjnibamlab.POl Go.Proofs.YtmppdgjnibamlabW.PrintWords
set_option linter.unusedVariables false
set_option linter.unusedSimpArgs false

theorem awake12 : foundrylaw12_awake.f = some true := by
  unfold foundrylaw12_awake.f
  rw [Write_f (by intro c hc; obtain rfl := List.mem_singleton.1 hc; decide)]
  decide +kernel
def totC : List (List Pt) → Nat
  | [] => 0
  | c :: r => 1 + c.length + totC r
theorem totC_mem : ∀ (l : List (List Pt)) (c : List Pt), c ∈ l → c.length ≤ totC l
  | [], c, h => by simp at h
  | x :: r, c, h => by
    rw [totC]
    rcases List.mem_cons.1 h with rfl | h
    · omega
    · have := totC_mem r c h
      omega
theorem totC_len : ∀ (l : List (List Pt)), l.length ≤ totC l
  | [] => Nat.le_refl _
  | x :: r => by
    have := totC_len r
    rw [totC, List.length_cons]; omega
theorem few12 (cs : List (List Pt)) (ps : List Pr) (hl : cs.length ≤ 1000000000000000) (hc : ∀ c ∈ cs, c.length ≤ 1000000000000000) : ∃ r, Ev (fun k => foundryref12_Few.f k cs ps) r ∧ (r = true → totC cs ≤ 1000) := by
  have h : ∀ d i : Nat, i + d = cs.length → ∀ acc : Int, 0 ≤ acc → acc ≤ 3000000000000000 → ∃ r, Ev (fun k => foundryref12_Few.l0 k acc (i : Int) cs ps) r ∧ (r = true → acc + (totC (cs.drop i) : Int) ≤ 1000) := by
    intro d
    induction d with
    | zero =>
      intro i hi acc h0 h1
      by_cases ha : acc ≤ 1000
      · exact ⟨_, Ev.step (fun k => by rw [foundryref12_Few.l0, if_neg (by omega), if_pos ha]) (Ev.now _), fun _ => by rw [List.drop_of_length_le (by omega)]; show acc + ((0 : Nat) : Int) ≤ 1000; omega⟩
      · exact ⟨false, Ev.step (fun k => by rw [foundryref12_Few.l0, if_neg (by omega), if_neg ha]) (Ev.now _), fun h => by cases h⟩
    | succ d ih =>
      intro i hi acc h0 h1
      have hlt : i < cs.length := by omega
      by_cases ha : acc ≤ 1000
      · have e := rdC hlt
        have hcl := hc cs[i] (List.getElem_mem hlt)
        have w2 : wrap64 (acc + wrap64 (1 + (cs[i].length : Int))) = acc + (1 + (cs[i].length : Int)) := by unfold wrap64; omega
        obtain ⟨r, hev, hr⟩ := ih (i + 1) (by omega) (acc + (1 + (cs[i].length : Int))) (by omega) (by omega)
        have W2 := Aside0.mk w2
        clear w2
        refine ⟨r, Ev.step (fun k => by rw [foundryref12_Few.l0, if_pos (by omega), if_pos ha, if_pos (by omega), e, W2.out, wnat (by omega)]) hev, fun h => ?_⟩
        have h5 := hr h
        rw [List.drop_eq_getElem_cons hlt, totC]
        omega
      · exact ⟨false, Ev.step (fun k => by rw [foundryref12_Few.l0, if_pos (by omega), if_neg ha]) (Ev.now _), fun h => by cases h⟩
  obtain ⟨r, h1, h2⟩ := h cs.length 0 (by omega) 0 (by omega) (by omega)
  exact ⟨r, h1, fun hb => by have := h2 hb; rw [List.drop_zero] at this; omega⟩
theorem osame_l2 (cs : List (List Pt)) (ps : List Pr) (h : ps.length ≤ 1000000) : ∀ d i : Nat, i + d = ps.length → Ev (fun k => foundryref12_Same.l2 k (i : Int) cs ps cs ps) true := by
  intro d
  induction d with
  | zero => intro i hi; exact Ev.step (fun k => by rw [foundryref12_Same.l2, if_neg (by omega)]) (Ev.now _)
  | succ d ih =>
    intro i hi
    exact Ev.step (fun k => by rw [foundryref12_Same.l2, if_pos (by omega), if_pos (by omega), if_pos (by omega), if_neg (by simp), wnat (by omega)]) (ih (i + 1) (by omega))
theorem osame_l1 (cs : List (List Pt)) (ps : List Pr) (i : Nat) (hi : i < cs.length) (hc : cs[i].length ≤ 1000000) (hcs : cs.length ≤ 1000000) (h : Ev (fun k => foundryref12_Same.l0 k ((i + 1 : Nat) : Int) cs ps cs ps) true) : ∀ d j : Nat, j + d = cs[i].length → Ev (fun k => foundryref12_Same.l1 k (i : Int) (j : Int) cs ps cs ps) true := by
  intro d
  have e := rdC hi
  induction d with
  | zero => intro j hj; exact Ev.step (fun k => by rw [foundryref12_Same.l1, if_pos (by omega), if_pos (by omega), e, if_neg (by omega), wnat (by omega)]) h
  | succ d ih =>
    intro j hj
    exact Ev.step (fun k => by rw [foundryref12_Same.l1, if_pos (by omega), if_pos (by omega), e, if_pos (by omega), if_pos (by omega), if_pos (by omega), if_pos (by omega), if_neg (by simp), wnat (by omega)]) (ih (j + 1) (by omega))
theorem osame_ev (cs : List (List Pt)) (ps : List Pr) (h1 : cs.length ≤ 1000000) (h2 : ∀ c ∈ cs, c.length ≤ 1000000) (h3 : ps.length ≤ 1000000) : Ev (fun k => foundryref12_Same.f k cs ps cs ps) true := by
  unfold foundryref12_Same.f
  simp only [if_true]
  rw [show ((ps.length : Int) != (ps.length : Int)) = false by simp]
  refine Ev.step (fun k => by rw [foundryref12_Same.j0, if_neg (by decide)]) ?_
  have h : ∀ d i : Nat, i + d = cs.length → Ev (fun k => foundryref12_Same.l0 k (i : Int) cs ps cs ps) true := by
    intro d
    induction d with
    | zero => intro i hi; exact Ev.step (fun k => by rw [foundryref12_Same.l0, if_neg (by omega)]; rfl) (osame_l2 cs ps h3 ps.length 0 (by omega))
    | succ d ih =>
      intro i hi
      have hlt : i < cs.length := by omega
      refine Ev.step (fun k => by rw [foundryref12_Same.l0, if_pos (by omega), if_pos (by omega), if_pos (by omega), if_pos rfl]) ?_
      exact osame_l1 cs ps i hlt (h2 _ (List.getElem_mem hlt)) h1 (ih (i + 1) (by omega)) cs[i].length 0 (by omega)
  exact h cs.length 0 (by omega)
end Go.Proofs.Ytmppdgjnibamlab.Pag
