/- packed.Changes. -/
import Derived.Test.YtmppdgjnibamlaaPkC
import Derived.Test.YtmppdgjnibamlaaO4A
namespace Go.Proofs.Ytmppdgjnibamlaa.Pag
open Go.RowKit Go.Proofs.YtmppdgjnibamlaaW.PrintWords
set_option linter.unusedVariables false
set_option linter.unusedSimpArgs false

/-! Runs, plain. -/
def runLen (kd : Int → Int) (L : Nat) (r : List Int) : Nat :=
  match r with
  | [] => 0
  | x :: r => 1 + ((r.take (L - 1)).takeWhile (fun y => kd y == kd x)).length
def packsF (kd : Int → Int) (L : Nat) (enc : Int → List Int → List Int) : Nat → List Int → List Int
  | 0, _ => []
  | f + 1, r => if r = [] then [] else enc (kd (rd r 0)) (r.take (runLen kd L r)) ++ packsF kd L enc f (r.drop (runLen kd L r))
def packs (kd : Int → Int) (L : Nat) (enc : Int → List Int → List Int) (r : List Int) : List Int := packsF kd L enc r.length r

theorem tw_all {p : Int → Bool} : ∀ (r : List Int) (i : Nat), i < (r.takeWhile p).length → ∃ x, r[i]? = some x ∧ p x = true
  | [], i, h => by simp at h
  | y :: r, i, h => by
    rw [List.takeWhile_cons] at h
    split at h
    · rename_i hp
      cases i with
      | zero => exact ⟨y, rfl, hp⟩
      | succ i => simpa using tw_all r i (by simpa using h)
    · simp at h
theorem tw_end {p : Int → Bool} : ∀ (r : List Int), (r.takeWhile p).length < r.length → ∃ x, r[(r.takeWhile p).length]? = some x ∧ p x = false
  | [], h => by simp at h
  | y :: r, h => by
    rw [List.takeWhile_cons] at h ⊢
    split
    · rename_i hp
      rw [if_pos hp] at h
      simpa using tw_end r (by simpa using h)
    · rename_i hp
      exact ⟨y, rfl, by simpa using hp⟩
theorem rd_some {l : List Int} {j : Nat} {x : Int} (h : l[j]? = some x) : rd l (j : Int) = x := by simp [rd, List.getD_eq_getElem?_getD, h]
theorem runLen_run {kd : Int → Int} {L : Nat} {r : List Int} (hL : 1 ≤ L) (hr : 0 < r.length) : Run kd L r (runLen kd L r) := by
  cases r with
  | nil => simp at hr
  | cons x r =>
    obtain ⟨m, hm⟩ : ∃ m, ((r.take (L - 1)).takeWhile (fun y => kd y == kd x)).length = m := ⟨_, rfl⟩
    have e : runLen kd L (x :: r) = 1 + m := by simp [runLen, hm]
    have hle : m ≤ (r.take (L - 1)).length := by rw [← hm]; exact (List.takeWhile_sublist _).length_le
    rw [List.length_take] at hle
    rw [e]
    have h0 : rd (x :: r) 0 = x := rfl
    refine ⟨by omega, by simp; omega, by omega, fun i hi => ?_, ?_⟩
    · rw [h0]
      cases i with
      | zero => rfl
      | succ i =>
        obtain ⟨y, hy, hp⟩ := tw_all (r.take (L - 1)) i (by rw [hm]; omega)
        rw [List.getElem?_take] at hy
        split at hy
        · rw [rd_some (x := y) (by simpa using hy)]
          simpa using hp
        · cases hy
    · by_cases h : m < (r.take (L - 1)).length
      · right; right
        rw [h0]
        obtain ⟨y, hy, hp⟩ := tw_end (r.take (L - 1)) (by rw [hm]; exact h)
        rw [hm, List.getElem?_take] at hy
        split at hy
        · rw [rd_some (x := y) (by rw [Nat.add_comm]; simpa using hy)]
          simpa using hp
        · cases hy
      · rw [List.length_take] at h
        simp only [List.length_cons]
        omega
theorem run_uniq {kd : Int → Int} {L : Nat} {r : List Int} {m n : Nat} (h1 : Run kd L r m) (h2 : Run kd L r n) : m = n := by
  rcases Nat.lt_trichotomy m n with h | h | h
  · rcases h1.most with e | e | e
    · have := h2.len; omega
    · have := h2.long; omega
    · exact absurd (h2.alike m h) e
  · exact h
  · rcases h2.most with e | e | e
    · have := h1.len; omega
    · have := h1.long; omega
    · exact absurd (h1.alike n h) e
theorem packsF_more {kd : Int → Int} {L : Nat} {enc : Int → List Int → List Int} (hL : 1 ≤ L) : ∀ (f : Nat) (r : List Int), r.length ≤ f → packsF kd L enc f r = packsF kd L enc r.length r := by
  intro f
  induction f using Nat.strongRecOn with
  | _ f ih =>
    intro r hr
    cases f with
    | zero =>
      have : r = [] := List.length_eq_zero_iff.1 (by omega)
      subst this; rfl
    | succ f =>
      cases r with
      | nil => simp [packsF]
      | cons x r =>
        have hrun := runLen_run (kd := kd) (L := L) (r := x :: r) hL (by simp)
        have h1 := hrun.one
        have h2 := hrun.len
        rw [List.length_cons] at hr h2 ⊢
        simp only [packsF]
        rw [if_neg (by simp), if_neg (by simp)]
        congr 1
        rw [ih f (by omega) _ (by rw [List.length_drop, List.length_cons]; omega)]
        rcases Nat.lt_or_ge r.length (f + 1) with h3 | h3
        · exact (ih r.length (by omega) _ (by rw [List.length_drop, List.length_cons]; omega)).symm
        · rw [ih r.length (by omega) _ (by rw [List.length_drop, List.length_cons]; omega)]
theorem packs_nil (kd : Int → Int) (L : Nat) (enc : Int → List Int → List Int) : packs kd L enc [] = [] := rfl
theorem packs_step {kd : Int → Int} {L : Nat} {enc : Int → List Int → List Int} {r : List Int} {n : Nat} (hL : 1 ≤ L) (h : Run kd L r n) : packs kd L enc r = enc (kd (rd r 0)) (r.take n) ++ packs kd L enc (r.drop n) := by
  have h1 := h.one
  have h2 := h.len
  have hn := run_uniq h (runLen_run hL (by omega))
  cases r with
  | nil => simp at h2; omega
  | cons x r =>
    unfold packs
    rw [List.length_cons]
    simp only [packsF]
    rw [if_neg (by simp), ← hn]
    congr 1
    rw [packsF_more hL r.length _ (by rw [List.length_drop, List.length_cons]; omega)]
/-- By induction on runs. -/
theorem packs_ind {kd : Int → Int} {L : Nat} (hL : 1 ≤ L) {p : List Int → Prop} (h0 : p []) (hs : ∀ r n, Run kd L r n → p (r.drop n) → p r) : ∀ r, p r := by
  intro r
  induction hn : r.length using Nat.strongRecOn generalizing r with
  | _ n ih =>
    by_cases hr : 0 < r.length
    · have h := runLen_run (kd := kd) hL hr
      refine hs r _ h (ih _ ?_ _ rfl)
      rw [List.length_drop]
      have := h.one
      omega
    · rw [List.length_eq_zero_iff.1 (by omega : r.length = 0)]; exact h0
theorem packs_len {kd : Int → Int} {L : Nat} {enc : Int → List Int → List Int} (hL : 1 ≤ L) (c : Nat) (he : ∀ k xs, (enc k xs).length ≤ 1 + c * xs.length) (r : List Int) : (packs kd L enc r).length ≤ (1 + c) * r.length := by
  refine packs_ind (kd := kd) hL (p := fun r => (packs kd L enc r).length ≤ (1 + c) * r.length) (by simp [packs_nil]) (fun r n h ih => ?_) r
  rw [packs_step hL h, List.length_append]
  rw [List.length_drop] at ih
  have := he (kd (rd r 0)) (r.take n)
  have h1 := h.one
  have h2 := h.len
  rw [List.length_take, Nat.min_eq_left h2] at this
  have e : (1 + c) * r.length = (1 + c) * n + (1 + c) * (r.length - n) := by rw [← Nat.mul_add]; congr 1; omega
  have e2 : (1 + c) * n = n + c * n := by rw [Nat.add_mul, Nat.one_mul]
  omega
end Go.Proofs.Ytmppdgjnibamlaa.Pag
