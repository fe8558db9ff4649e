/- packed.rising, the literal wide; the row of steps. -/
import Derived.Test.YtmppdgjnibamlaaPkF
namespace Go.Proofs.Ytmppdgjnibamlaa.Pag
open Go.RowKit Go.Proofs.YtmppdgjnibamlaaW.PrintWords
set_option linter.unusedVariables false
set_option linter.unusedSimpArgs false

def before (l : List Int) (j : Nat) : Int := if j = 0 then -1 else rd l ((j - 1 : Nat) : Int)
def upAt (l : List Int) (j : Nat) : Bool := decide (before l j < rd l (j : Int)) && decide (rd l (j : Int) ≤ 65535)
def risingB (l : List Int) : Bool := (List.range l.length).all (upAt l) && decide (l.length ≤ 2000)

set_option maxHeartbeats 1000000 in
set_option maxRecDepth 100000 in
theorem rising_calls (A0 : Option Addr) (c0 : Nat) (l0 : List Int) (w : World) (hr0 : Kd.C (Kd.int .i64) w A0 l0.length l0) :
    Calls Try.prog 71 #[.slice A0 l0.length c0] w fun e w' => e = .returned (.bool (risingB l0)) ∧ w = w' := by
  have hlen := hr0.2.1
  have HR := Aside0.mk hr0
  clear hr0
  by_cases hall : (List.range l0.length).all (upAt l0) = true
  · have HG := Aside0.mk (List.all_eq_true.1 hall)
    have HE := Aside0.mk (show risingB l0 = decide ((l0.length : Int) ≤ 2000) by
      unfold risingB; rw [hall, Bool.true_and]; congr 1; simp; omega)
    clear hall
    go_enter Try.func71, Try.ntmps71
    go_wp2
    go_loop [3, 8] (fun b i => ∃ j : Nat, i = .int .i64 (j : Int) ∧ j ≤ l0.length ∧ b = .int .i64 (before l0 j)) (fun _ i => l0.length - (intOf i).toNat)
    case atStart => exact ⟨0, rfl, by omega, rfl⟩
    case round =>
      obtain ⟨j, rfl, hj, rfl⟩ := hrel
      by_cases hlt : j < l0.length
      · obtain ⟨ad, had, -⟩ := (C_reads HR.out).at_ (j : Int) (by omega) (by omega)
        subst had
        have hc := (cell_at HR.out j (by omega)).2 _ rfl
        have hjl : (j : Int) < (l0.length : Int) := by omega
        have hg := HG.out j (by simpa using hlt)
        simp only [upAt, Bool.and_eq_true, decide_eq_true_eq] at hg
        obtain ⟨h1, h2⟩ := hg
        go_wp2
        go_round
        case rel => exact ⟨j + 1, by go_num, by omega, by simp [before]⟩
        case measure => simp [intOf]; omega
      · go_wp2
        go_ret
        exact ⟨by rw [HE.out]; rfl, rfl⟩
  · obtain ⟨b, hb, hbad, hgood⟩ : ∃ b : Nat, b < l0.length ∧ upAt l0 b = false ∧ ∀ i, i < b → upAt l0 i = true := by
      have hn : ∃ b, ¬ (b < l0.length → upAt l0 b = true) := by
        refine Classical.byContradiction fun h => hall ?_
        rw [List.all_eq_true]
        intro x hx
        refine Classical.byContradiction fun h2 => h ⟨x, fun h3 => h2 (h3 (by simpa using hx))⟩
      obtain ⟨n, hn⟩ := hn
      induction n using Nat.strongRecOn with
      | _ n ih =>
        by_cases h : ∀ i, i < n → upAt l0 i = true
        · exact ⟨n, Classical.byContradiction fun h2 => hn fun h3 => absurd h3 h2, by
            cases hu : upAt l0 n
            · rfl
            · exact absurd (fun _ => hu) hn, h⟩
        · obtain ⟨i, hi⟩ := Classical.not_forall.1 h
          obtain ⟨hin, hiu⟩ := Classical.not_imp.1 hi
          have hlt : n < l0.length := Classical.byContradiction fun h2 => hn fun h3 => absurd h3 h2
          exact ih i hin fun h4 => hiu (h4 (by omega))
    have HE := Aside0.mk (show risingB l0 = false by unfold risingB; rw [Bool.eq_false_iff.2 hall]; rfl)
    have HG := Aside0.mk hgood
    have HBD := Aside0.mk hbad
    clear hall hgood hbad
    go_enter Try.func71, Try.ntmps71
    go_wp2
    go_loop [3, 8] (fun v i => ∃ j : Nat, i = .int .i64 (j : Int) ∧ j ≤ b ∧ v = .int .i64 (before l0 j)) (fun _ i => l0.length - (intOf i).toNat)
    case atStart => exact ⟨0, rfl, by omega, rfl⟩
    case round =>
      obtain ⟨j, rfl, hj, rfl⟩ := hrel
      obtain ⟨ad, had, -⟩ := (C_reads HR.out).at_ (j : Int) (by omega) (by omega)
      subst had
      have hc := (cell_at HR.out j (by omega)).2 _ rfl
      have hjl : (j : Int) < (l0.length : Int) := by omega
      by_cases hlt : j < b
      · have hg := HG.out j hlt
        simp only [upAt, Bool.and_eq_true, decide_eq_true_eq] at hg
        obtain ⟨h1, h2⟩ := hg
        go_wp2
        go_round
        case rel => exact ⟨j + 1, by go_num, by omega, by simp [before]⟩
        case measure => simp [intOf]; omega
      · obtain rfl : j = b := by omega
        have hg := HBD.out
        simp only [upAt, Bool.and_eq_false_iff, decide_eq_false_iff_not] at hg
        by_cases h1 : before l0 j < rd l0 (j : Int)
        · have h2 : 65535 < rd l0 (j : Int) := by omega
          go_wp2
          go_ret
          exact ⟨by rw [HE.out]; rfl, rfl⟩
        · go_wp2
          go_ret
          exact ⟨by rw [HE.out]; rfl, rfl⟩

def wideOf (x : Int) : Int := if 1 < wrap64 (x.tdiv 256) then 1 else wrap64 (x.tdiv 256)
set_option maxHeartbeats 1000000 in
theorem wide_calls (x : Int) (w : World) : Calls Try.prog 72 #[.int .i64 x] w fun e w' => e = .returned (.int .i64 (wideOf x)) ∧ w = w' := by
  by_cases h : 1 < wrap64 (x.tdiv 256)
  · have HE := Aside0.mk (show wideOf x = 1 by unfold wideOf; rw [if_pos h])
    go_enter Try.func72, Try.ntmps72
    go_wp2
    go_ret
    exact ⟨by rw [HE.out]; rfl, rfl⟩
  · have HE := Aside0.mk (show wideOf x = wrap64 (x.tdiv 256) by unfold wideOf; rw [if_neg h])
    go_enter Try.func72, Try.ntmps72
    go_wp2
    go_ret
    exact ⟨by rw [HE.out]; rfl, rfl⟩
theorem wideOf_in (x : Int) (h0 : 0 ≤ x) (h1 : x ≤ 65535) : wideOf x = if 256 ≤ x then 1 else 0 := by
  have e : x.tdiv 256 = x / 256 := by rw [Int.tdiv_eq_ediv_of_nonneg h0]
  unfold wideOf
  rw [e, show wrap64 (x / 256) = x / 256 by unfold wrap64; omega]
  split <;> split <;> omega

/-! The row of steps. -/
def stepAt (l : List Int) (j : Nat) : Int := if j = 0 then rd l (j : Int) else rd l (j : Int) - rd l ((j - 1 : Nat) : Int)
def stepsOf (l : List Int) : List Int := (List.range l.length).map (stepAt l)
def stepsTo (l : List Int) (j : Nat) : List Int := (List.range l.length).map fun i => if i < j then stepAt l i else 0
theorem stepsTo_len (l : List Int) (j : Nat) : (stepsTo l j).length = l.length := by simp [stepsTo]
theorem stepsOf_len (l : List Int) : (stepsOf l).length = l.length := by simp [stepsOf]
theorem stepsTo_zero (l : List Int) : stepsTo l 0 = List.replicate l.length 0 := by
  apply List.ext_getElem
  · simp [stepsTo]
  · intro i h1 h2; simp [stepsTo]
theorem stepsTo_all (l : List Int) : stepsTo l l.length = stepsOf l := by
  apply List.ext_getElem
  · simp [stepsTo, stepsOf]
  · intro i h1 h2
    have : i < l.length := by simpa [stepsTo] using h1
    simp [stepsTo, stepsOf, this]
theorem stepsTo_succ (l : List Int) (j : Nat) (h : j < l.length) : (stepsTo l j).set j (stepAt l j) = stepsTo l (j + 1) := by
  apply List.ext_getElem
  · simp [stepsTo]
  · intro i h1 h2
    simp only [stepsTo, List.getElem_set, List.getElem_map, List.getElem_range]
    by_cases e : j = i
    · subst e; simp
    · rw [if_neg e]
      by_cases h3 : i < j
      · rw [if_pos h3, if_pos (by omega)]
      · rw [if_neg h3, if_neg (by omega)]
theorem up_of {l : List Int} (h : risingB l = true) (j : Nat) (hj : j < l.length) : before l j < rd l (j : Int) ∧ rd l (j : Int) ≤ 65535 := by
  simp only [risingB, Bool.and_eq_true, List.all_eq_true] at h
  have := h.1 j (by simpa using hj)
  simpa [upAt] using this
theorem rising_nonneg {l : List Int} (h : risingB l = true) : ∀ j : Nat, j < l.length → 0 ≤ rd l (j : Int)
  | 0, hj => by have := (up_of h 0 hj).1; simp only [before, if_pos] at this; omega
  | j + 1, hj => by
    have h1 := (up_of h (j + 1) hj).1
    have h2 := rising_nonneg h j (by omega)
    simp only [before, if_neg (Nat.succ_ne_zero j), Nat.add_sub_cancel] at h1
    omega
theorem step_in {l : List Int} (h : risingB l = true) (j : Nat) (hj : j < l.length) : 0 ≤ stepAt l j ∧ stepAt l j ≤ 65535 := by
  have h1 := up_of h j hj
  have h2 := rising_nonneg h j hj
  unfold stepAt before at *
  split
  · omega
  · rename_i hne
    rw [if_neg hne] at h1
    have h3 := rising_nonneg h (j - 1) (by omega)
    omega
theorem steps_in {l : List Int} (h : risingB l = true) : ∀ x ∈ stepsOf l, 0 ≤ x ∧ x ≤ 65535 := by
  intro x hx
  simp only [stepsOf, List.mem_map, List.mem_range] at hx
  obtain ⟨j, hj, rfl⟩ := hx
  exact step_in h j hj

section
variable {w0 wr : World} {base bx g : Nat} {B : List Int}
theorem Boxd.made (h : Boxd w0 wr base bx g B (.slice none 0 0) []) (m : Nat) (hm : m ≤ 1000000) :
    Boxd w0 (wr.alloc (.cells (madeCells #[.int .i64 0] m) 3)) base bx g B (.slice (some ⟨wr.heap.size, 0, none⟩) m m) (List.replicate m 0) := by
  have hbase := h.base_le
  obtain ⟨ok, h1, h2, h3, h4, h5, h6, h7⟩ := h
  refine ⟨_, h1.bound.alloc _, (heap_alloc_old wr _ (blk_lt h2)).trans h2, fun hk => h3 hk.1, h4, own_made' wr base 3 .i64 m hbase (by omega), fun k e hk => ?_, h7.alloc hbase _⟩
  have : wr.heap.size = k := by simpa [Value.ownBlock] using e
  omega
theorem Boxd.store {gs n c : Nat} {zs : List Int} (h : Boxd w0 wr base bx g B (.slice (some ⟨gs, 0, none⟩) n c) zs) (hn : zs.length = n) (j : Nat) (x : Int) :
    Boxd w0 (wr.setCell ⟨gs, j, none⟩ (.int .i64 x)) base bx g B (.slice (some ⟨gs, 0, none⟩) n c) (zs.set j x) := by
  subst hn
  obtain ⟨ok, h1, h2, h3, h4, h5, h6, h7⟩ := h
  have hs := own_store h5 (j : Int) x
  rw [Int.toNat_natCast] at hs
  have hgb : base ≤ gs := own_base h5 gs (by simp [Value.ownBlock])
  have hne : bx ≠ gs := fun e => by
    obtain ⟨cs, hc⟩ := own_typed h5 gs (by simp [Value.ownBlock])
    rw [← e, h2] at hc
    simp at hc
  refine ⟨ok, h1.grown hs.2 (fun k hk e => h6 gs (by simp [Value.ownBlock]) (by injection e with e; rw [← e]; exact hk)), (Below.heap_setCell _ _ _ _ (by simpa using hne)).trans h2, h3, h4, ?_, h6, h7.setCell hgb _⟩
  rw [List.length_set]
  exact hs.1
theorem Boxd.row {A : Option Addr} {n c : Nat} {zs : List Int} (h : Boxd w0 wr base bx g B (.slice A n c) zs) : Kd.C (Kd.int .i64) wr A zs.length zs := by
  obtain ⟨A', c', he, _, hC⟩ := Kd.R_reads (own_R h.own (ok := fun _ => True) (fun _ _ => trivial))
  injection he with h1 h2 h3
  rw [h1]
  exact hC
end
end Go.Proofs.Ytmppdgjnibamlaa.Pag
