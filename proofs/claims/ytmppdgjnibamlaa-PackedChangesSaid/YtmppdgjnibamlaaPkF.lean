/- packed.Changes: the contract, printed form. -/
import Derived.Test.YtmppdgjnibamlaaPkE
namespace Go.Proofs.Ytmppdgjnibamlaa.Pag
open Go.RowKit Go.Proofs.YtmppdgjnibamlaaW.PrintWords
set_option linter.unusedVariables false
set_option linter.unusedSimpArgs false

theorem allP (B : List Int) (h : B.length ≤ 1048576) : allE false B [] = 0 ∧ allB false B [] = B := by
  have : ¬ 1048576 < B.length := by omega
  simp [allE, allB, this]
theorem first_bad {p : Int → Bool} : ∀ (l : List Int), ¬ l.all p = true → ∃ b : Nat, b < l.length ∧ p (rd l (b : Int)) = false ∧ ∀ i : Nat, i < b → p (rd l (i : Int)) = true
  | [], h => by simp at h
  | x :: l, h => by
    by_cases hx : p x = true
    · obtain ⟨b, hb, h1, h2⟩ := first_bad l (by simpa [hx] using h)
      refine ⟨b + 1, by simp; omega, by simpa [rd] using h1, fun i hi => ?_⟩
      cases i with
      | zero => simpa [rd] using hx
      | succ i => simpa [rd] using h2 i (by omega)
    · exact ⟨0, by simp, by simpa [rd] using hx, fun i hi => by omega⟩

set_option maxHeartbeats 1000000 in
set_option maxRecDepth 100000 in
theorem Changes_bad (A0 : Option Addr) (c0 : Nat) (l0 : List Int) (w : World) (hr0 : Kd.C (Kd.int .i64) w A0 l0.length l0) (b : Nat) (hb : b < l0.length) (hbad : inC (rd l0 (b : Int)) = false) (hgood : ∀ i : Nat, i < b → inC (rd l0 (i : Int)) = true) :
    Calls Try.prog 31 #[.slice A0 l0.length c0] w fun e w' => e = .returned (.tuple #[.slice none 0 0, .int .i64 1]) ∧ w = w' := by
  have hlen := hr0.2.1
  have HR := Aside0.mk hr0
  have HG := Aside0.mk hgood
  have HBD := Aside0.mk hbad
  clear hr0 hgood hbad
  go_enter Try.func31, Try.ntmps31
  go_wp2
  go_loop [9] (fun i => ∃ j : Nat, i = .int .i64 (j : Int) ∧ j ≤ b) (fun i => l0.length - (intOf i).toNat)
  case atStart => exact ⟨0, rfl, by omega⟩
  case round =>
    obtain ⟨j, rfl, hj⟩ := hrel
    obtain ⟨ad, had, -⟩ := (C_reads HR.out).at_ (j : Int) (by omega) (by omega)
    subst had
    have hc := (cell_at HR.out j (by omega)).2 _ rfl
    have hjl : (j : Int) < (l0.length : Int) := by omega
    by_cases hlt : j < b
    · have hg := HG.out j hlt
      simp only [inC, Bool.and_eq_true, decide_eq_true_eq] at hg
      obtain ⟨h1, h2⟩ := hg
      go_wp2
      go_round
      case rel => exact ⟨j + 1, by go_num, by omega⟩
      case measure => simp [intOf]; omega
    · obtain rfl : j = b := by omega
      have hg := HBD.out
      simp only [inC, Bool.and_eq_false_iff, decide_eq_false_iff_not] at hg
      rcases hg with hg | hg
      · go_wp2
        go_ret2
        exact ⟨rfl, rfl⟩
      · by_cases h2 : rd l0 (j : Int) < -32768
        · go_wp2
          go_ret2
          exact ⟨rfl, rfl⟩
        · go_wp2
          go_ret2
          exact ⟨rfl, rfl⟩

set_option maxHeartbeats 1000000 in
set_option maxRecDepth 100000 in
theorem Changes_long (A0 : Option Addr) (c0 : Nat) (l0 : List Int) (w : World) (hr0 : Kd.C (Kd.int .i64) w A0 l0.length l0) (hgood : l0.all inC = true) (hl : 2000 < l0.length) :
    Calls Try.prog 31 #[.slice A0 l0.length c0] w fun e w' => e = .returned (.tuple #[.slice none 0 0, .int .i64 1]) ∧ w = w' := by
  have hlen := hr0.2.1
  have HR := Aside0.mk hr0
  have HG := Aside0.mk (List.all_eq_true.1 hgood)
  clear hr0 hgood
  go_enter Try.func31, Try.ntmps31
  go_wp2
  go_loop [9] (fun i => ∃ j : Nat, i = .int .i64 (j : Int) ∧ j ≤ l0.length) (fun i => l0.length - (intOf i).toNat)
  case atStart => exact ⟨0, rfl, by omega⟩
  case round =>
    obtain ⟨j, rfl, hj⟩ := hrel
    by_cases hlt : j < l0.length
    · obtain ⟨ad, had, -⟩ := (C_reads HR.out).at_ (j : Int) (by omega) (by omega)
      subst had
      have hc := (cell_at HR.out j (by omega)).2 _ rfl
      have hg := HG.out _ (rd_in hlt)
      simp only [inC, Bool.and_eq_true, decide_eq_true_eq] at hg
      obtain ⟨h1, h2⟩ := hg
      go_wp2
      go_round
      case rel => exact ⟨j + 1, by go_num, by omega⟩
      case measure => simp [intOf]; omega
    · go_wp2
      go_ret2
      exact ⟨rfl, rfl⟩

set_option maxHeartbeats 1000000 in
set_option maxRecDepth 100000 in
theorem Changes_ok (A0 : Option Addr) (c0 : Nat) (l0 : List Int) (w : World) (hr0 : Kd.C (Kd.int .i64) w A0 l0.length l0) (hc0 : l0.length ≤ c0) (hgood : l0.all inC = true) (hl : l0.length ≤ 2000) :
    Calls Try.prog 31 #[.slice A0 l0.length c0] w fun e w' => ∃ v, e = .returned (.tuple #[v, .int .i64 0]) ∧ Kd.R (Kd.int .u8) 5 w' w.heap.size (fun _ => True) v (packs kindOf 64 encC l0) ∧ Below w.heap.size w w' := by
  have HR := Aside0.mk hr0
  have HG := Aside0.mk (List.all_eq_true.1 hgood)
  have HX := Aside0.mk (Boxd.new w w.heap.size (Nat.le_refl _))
  have HRUN := Aside0.mk (fun (W : World) (hW : Boxd w W w.heap.size (w.heap.size + 1) w.heap.size [] (.slice none 0 0) []) => runsC_box hW l0 hgood hl A0 c0 (fun W' B' hb => Kd.C_below hr0 hb.bel) hc0)
  have HL3 := Aside0.mk (show (packs kindOf 64 encC l0).length ≤ 1048576 by have := packsC_len l0; omega)
  clear hr0 hgood
  go_enter Try.func31, Try.ntmps31
  go_wp2
  go_loop [9] (fun i => ∃ j : Nat, i = .int .i64 (j : Int) ∧ j ≤ l0.length) (fun i => l0.length - (intOf i).toNat)
  case atStart => exact ⟨0, rfl, by omega⟩
  case round =>
    obtain ⟨j, rfl, hj⟩ := hrel
    by_cases hlt : j < l0.length
    · obtain ⟨ad, had, -⟩ := (C_reads HR.out).at_ (j : Int) (by omega) (by omega)
      subst had
      have hc := (cell_at HR.out j (by omega)).2 _ rfl
      have hg := HG.out _ (rd_in hlt)
      simp only [inC, Bool.and_eq_true, decide_eq_true_eq] at hg
      obtain ⟨h1, h2⟩ := hg
      go_wp2
      go_round
      case rel => exact ⟨j + 1, by go_num, by omega⟩
      case measure => simp [intOf]; omega
    · go_wp2_with (first
        | (go_at_call 68; refine (HRUN.out _ HX.out).mono ?_; rintro e w2 ⟨rfl, hb⟩; have HB2 := Aside0.mk hb; have hcell := hb.cell; clear hb)
        | (go_at_call 22; obtain ⟨ok, hPg⟩ := HB2.out.pg; refine (All_calls hPg).mono ?_; rintro e w3 ⟨vb, rfl, hR, hB⟩; rw [(allP _ HL3.out).1]; rw [(allP _ HL3.out).2] at hR; have HR3 := Aside0.mk hR; have HB3 := Aside0.mk hB; clear hPg ok hR hB))
      go_ret2
      have hsz := HB2.out.base_le
      exact ⟨_, rfl, Kd.R_lower HR3.out hsz, below_then HB2.out.bel hsz HB3.out⟩

theorem packed_Changes.calls (A0 : Option Addr) (c0 : Nat) (l0 : List Int) (r1 : List Int) (r2 : Int) (w : World) (hr0 : Kd.C (Kd.int .i64) w A0 l0.length l0) (hc0 : l0.length ≤ c0) (h : packed_Changes.f l0 = some (r1, r2)) :
    Calls Try.prog 31 #[.slice A0 l0.length c0] w fun e w' => ∃ v0_, e = .returned (.tuple #[v0_, .int .i64 r2]) ∧ Kd.R (Kd.int .u8) 5 w' w.heap.size (fun _ => True) v0_ r1 ∧ Below w.heap.size w w' := by
  unfold packed_Changes.f at h
  have HN := Kd.R_nil (Kd.int .u8) 5 w w.heap.size (fun _ => True)
  by_cases hg : l0.all inC = true
  · by_cases hl : l0.length ≤ 2000
    · rw [if_pos ⟨hg, hl⟩] at h
      injection h with h
      injection h with h1 h2
      subst h1 h2
      exact Changes_ok A0 c0 l0 w hr0 hc0 hg hl
    · rw [if_neg (fun h => hl h.2)] at h
      injection h with h
      injection h with h1 h2
      subst h1 h2
      refine (Changes_long A0 c0 l0 w hr0 hg (by omega)).mono ?_
      rintro e w' ⟨rfl, rfl⟩
      exact ⟨_, rfl, HN, Below.refl _ _⟩
  · rw [if_neg (fun h => hg h.1)] at h
    injection h with h
    injection h with h1 h2
    subst h1 h2
    obtain ⟨b, hb, hbad, hgood⟩ := first_bad l0 hg
    refine (Changes_bad A0 c0 l0 w hr0 b hb hbad hgood).mono ?_
    rintro e w' ⟨rfl, rfl⟩
    exact ⟨_, rfl, HN, Below.refl _ _⟩
end Go.Proofs.Ytmppdgjnibamlaa.Pag
