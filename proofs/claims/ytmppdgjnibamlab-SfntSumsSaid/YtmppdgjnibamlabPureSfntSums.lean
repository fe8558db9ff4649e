/- SfntSums: plain. -/
import Derived.Test.YtmppdgjnibamlabPSfx2
namespace Go.Proofs.Ytmppdgjnibamlab.Pure
open Go.RowKit Go.Proofs.Ytmppdgjnibamlab.PSf Go.Proofs.YtmppdgjnibamlabW.PrintWords Go.Proofs.YtmppdgjnibamlabW.PrintLast Go.Proofs.Ytmppdgjnibamlab.Pag
set_option linter.unusedVariables false
set_option linter.unusedSimpArgs false

theorem sumG_append : ∀ (x y : List Int) (i : Nat) (a : Int), sumG (x ++ y) i a = sumG y (i + x.length) (sumG x i a)
  | [], y, i, a => rfl
  | c :: x, y, i, a => by
    show sumG (x ++ y) (i + 1) _ = sumG y (i + (x.length + 1)) (sumG x (i + 1) _)
    rw [sumG_append x y (i + 1) _, show i + 1 + x.length = i + (x.length + 1) by omega]
theorem sumG_four : ∀ (y : List Int) (i k : Nat) (a : Int), sumG y (i + 4 * k) a = sumG y i a
  | [], i, k, a => rfl
  | c :: y, i, k, a => by
    show sumG y (i + 4 * k + 1) _ = sumG y (i + 1) _
    rw [show i + 4 * k + 1 = (i + 1) + 4 * k by omega, sumG_four y (i + 1) k, show (i + 4 * k) % 4 = i % 4 by omega]
theorem sumG_add : ∀ (y : List Int) (i : Nat) (a : Int), 0 ≤ a → a < 4294967296 → sumG y i a = (a + sumG y i 0) % 4294967296
  | [], i, a, h0, h1 => by show a = (a + 0) % 4294967296; omega
  | c :: y, i, a, h0, h1 => by
    show sumG y (i + 1) ((a + shl .u32 (c % 4294967296) (24 - 8 * ((i % 4 : Nat) : Int))) % 4294967296) = (a + sumG y (i + 1) ((0 + shl .u32 (c % 4294967296) (24 - 8 * ((i % 4 : Nat) : Int))) % 4294967296)) % 4294967296
    generalize shl .u32 (c % 4294967296) (24 - 8 * ((i % 4 : Nat) : Int)) = v
    rw [sumG_add y (i + 1) ((a + v) % 4294967296) (by omega) (by omega), sumG_add y (i + 1) ((0 + v) % 4294967296) (by omega) (by omega)]
    generalize sumG y (i + 1) 0 = u
    omega
theorem sumB_append (x y : List Int) (h : x.length % 4 = 0) : sumB (x ++ y) = (sumB x + sumB y) % 4294967296 := by
  unfold sumB
  rw [sumG_append, show 0 + x.length = 0 + 4 * (x.length / 4) by omega, sumG_four]
  exact sumG_add y 0 _ (sumB_range x).1 (sumB_range x).2
theorem shl_zero (s : Int) : shl .u32 0 s = 0 := by
  unfold shl
  rw [Int.zero_mul]; rfl
theorem sumG_zeros (n : Nat) : ∀ (i : Nat) (a : Int), 0 ≤ a → a < 4294967296 → sumG (List.replicate n 0) i a = a := by
  induction n with
  | zero => intro i a _ _; rfl
  | succ n ih =>
    intro i a h0 h1
    rw [List.replicate_succ, sumG, show (0 : Int) % 4294967296 = 0 by rfl, shl_zero, ih (i + 1) _ (by omega) (by omega)]
    omega
theorem sumB_zeros (x : List Int) (n : Nat) : sumB (x ++ List.replicate n 0) = sumB x := by
  unfold sumB
  rw [sumG_append]
  exact sumG_zeros n _ _ (sumB_range x).1 (sumB_range x).2

set_option maxHeartbeats 1000000 in
theorem sums_ev (a b : List Int) (ha : a.length ≤ 10000) (hb : b.length ≤ 10000) : Ev (fun k => foundrylaw05_SfntSums.j0 k a b false) true := by
  have w1 : wrap64 ((a.length : Int) / 4) = ((a.length / 4 : Nat) : Int) := by unfold wrap64; omega
  have w2 : wrap64 (((a.length / 4 : Nat) : Int) * 4) = ((a.length / 4 * 4 : Nat) : Int) := by unfold wrap64; omega
  have hq : a.length / 4 * 4 ≤ a.length := Nat.div_mul_le_self _ _
  have hl : (a.take (a.length / 4 * 4)).length = a.length / 4 * 4 := by rw [List.length_take]; omega
  have e1 := sumB_append (a.take (a.length / 4 * 4)) b (by rw [hl]; omega)
  have e2 := sumB_zeros b 4
  rw [show List.replicate 4 (0 : Int) = [0, 0, 0, 0] from rfl] at e2
  refine Ev.step (fun k => by
    rw [foundrylaw05_SfntSums.j0, if_neg (by simp), w1, w2, if_pos (by omega), if_pos (by omega), Int.toNat_natCast, if_pos (by rw [hl]; simp; omega), Option.bind_some, if_pos (by rw [List.length_append, hl]; simp; omega)]) ?_
  generalize a.take (a.length / 4 * 4) = x at *
  refine Ev.bind (sum_ev _ (by simp; omega)) ?_
  refine Ev.bind (sum_ev _ (by omega)) ?_
  refine Ev.bind (sum_ev _ (by omega)) ?_
  rw [List.nil_append, e1]
  simp only [if_true]
  refine Ev.congr (fun k => by rw [if_pos (by simp; omega), Option.bind_some, Option.bind_some, if_pos (by simp; omega)]) ?_
  refine Ev.bind (sum_ev _ (by simp; omega)) ?_
  refine Ev.bind (sum_ev _ (by omega)) ?_
  rw [List.nil_append, e2]
  simp only [beq_self_eq_true]
  exact Ev.now _
theorem SfntSums : foundrylaw05_SfntSums.Pure := by
  intro a b _ h1 _ _ h2 _
  refine Ev.rounds ?_
  unfold foundrylaw05_SfntSums.f
  simp only [show foundrylaw05_awake.f = some true from rfl, Option.bind_some, if_true]
  have no : Ev (fun k => foundrylaw05_SfntSums.j0 k a b true) true := Ev.step (fun k => by rw [foundrylaw05_SfntSums.j0, if_pos rfl]; rfl) (Ev.now _)
  by_cases ha : (a.length : Int) > 10000
  · simp only [if_pos ha]; exact no
  · simp only [if_neg ha]
    by_cases hb : (b.length : Int) > 10000
    · rw [decide_eq_true hb]; exact no
    · rw [decide_eq_false hb]; exact sums_ev a b (by omega) (by omega)
end Go.Proofs.Ytmppdgjnibamlab.Pure
