/- packed.Points: the contract, printed form. -/
import Derived.Test.YtmppdgjnibamlaaPkG
namespace Go.Proofs.Ytmppdgjnibamlaa.Pag
open Go.RowKit Go.Proofs.YtmppdgjnibamlaaW.PrintWords
set_option linter.unusedVariables false
set_option linter.unusedSimpArgs false

def encP (k : Int) (xs : List Int) : List Int := (128 * k + xs.length - 1) :: xs.flatMap (if k = 0 then b1 else b2)
def hdrP (n : Nat) : List Int := if n < 128 then [(n : Int)] else [128 + (n : Int) / 256, (n : Int) % 256]
def packed_Points.f (l0 : List Int) : Option (List Int × Int) :=
  some (if risingB l0 = true then (hdrP l0.length ++ packs wideOf 128 encP (stepsOf l0), 0) else ([], 1))
theorem encP_len (k : Int) (xs : List Int) : (encP k xs).length ≤ 1 + 2 * xs.length := by
  unfold encP
  have h := flat_len (if k = 0 then b1 else b2) 2 (fun x => by split <;> simp [b1, b2]) xs
  rw [List.length_cons]
  omega
theorem packsP_len (r : List Int) : (packs wideOf 128 encP r).length ≤ 3 * r.length := packs_len (by omega) 2 encP_len r
theorem hdrP_len (n : Nat) : (hdrP n).length ≤ 2 := by unfold hdrP; split <;> simp
def inP (x : Int) : Bool := decide (0 ≤ x) && decide (x ≤ 65535)

theorem run2_calls {w0 : World} {base bx g : Nat} {v : Value} {zs : List Int} {w : World} {B : List Int} (h : Boxd w0 w base bx g B v zs) (r : List Int) (hin : r.all inP = true) (A : Option Addr) (c n : Nat) (hrow : ∀ W B', Boxd w0 W base bx g B' v zs → Kd.C (Kd.int .i64) W A n (r.take n)) (hc : n ≤ c)
    (hrun : Run wideOf 128 r n) (hB : B.length ≤ 100000) :
    Calls Try.prog 73 #[.int .i64 (wideOf (rd r 0)), .slice A n c, .pointer (some ⟨bx, 0, none⟩)] w fun e w' => e = .returned (.tuple #[]) ∧ Boxd w0 w' base bx g (B ++ encP (wideOf (rd r 0)) (r.take n)) v zs := by
  have hn := hrun.one
  have hlen : (r.take n).length = n := by rw [List.length_take]; have := hrun.len; omega
  have hlong := hrun.long
  have hk : ∀ x ∈ r.take n, wideOf x = wideOf (rd r 0) := fun x hx => by
    obtain ⟨i, hi, _, rfl⟩ := mem_take_rd hx
    exact hrun.alike i hi
  have hr : ∀ x ∈ r.take n, 0 ≤ x ∧ x ≤ 65535 := fun x hx => by
    have := List.all_eq_true.1 hin x (List.mem_of_mem_take hx)
    simpa [inP] using this
  have h0 : 0 ≤ rd r 0 ∧ rd r 0 ≤ 65535 := by
    have := List.all_eq_true.1 hin _ (rd_in (l := r) (j := 0) (by have := hrun.len; omega))
    simpa [inP] using this
  obtain ⟨xs, hxs⟩ : ∃ xs, r.take n = xs := ⟨_, rfl⟩
  rw [hxs] at hlen hk hr hrow ⊢
  subst hlen
  have hw := wideOf_in (rd r 0) h0.1 h0.2
  by_cases h256 : 256 ≤ rd r 0
  · rw [if_pos h256] at hw
    rw [hw] at hk ⊢
    have := points1_calls h A c xs hrow hc ⟨hn, hlong⟩ hB hr
    simpa [encP] using this
  · rw [if_neg h256] at hw
    rw [hw] at hk ⊢
    have := points0_calls h A c xs hrow hc ⟨hn, hlong⟩ hB (fun x hx => by
      have h1 := hr x hx
      have h2 := hk x hx
      rw [wideOf_in x h1.1 h1.2] at h2
      split at h2 <;> omega)
    simpa [encP] using this

theorem runsP_box {w0 : World} {base bx g : Nat} {v : Value} {zs : List Int} {w : World} {B0 : List Int} (h : Boxd w0 w base bx g B0 v zs) (hB0 : B0.length ≤ 2) (l : List Int) (hin : l.all inP = true) (hl : l.length ≤ 2000) (A : Option Addr) (c : Nat) (hrow : ∀ W B', Boxd w0 W base bx g B' v zs → Kd.C (Kd.int .i64) W A l.length l) (hc : l.length ≤ c) :
    Calls Try.prog 68 #[.slice A l.length c, .func (.func 72) #[] #[], .int .i64 128, .func (.func 73) #[] #[.pointer (some ⟨bx, 0, none⟩)]] w fun e w' => e = .returned (.tuple #[]) ∧ Boxd w0 w' base bx g (B0 ++ packs wideOf 128 encP l) v zs := by
  have hmax := packsP_len l
  refine (runsP_calls wideOf 128 (.pointer (some ⟨bx, 0, none⟩)) (fun r W => r.all inP = true ∧ ∃ B, B ++ packs wideOf 128 encP r = B0 ++ packs wideOf 128 encP l ∧ Boxd w0 W base bx g B v zs) A c l w hc (by omega) wide_calls ?_ ?_ ?_ ⟨hin, B0, rfl, h⟩).mono ?_
  · rintro r W ⟨-, B, -, hb⟩
    exact hrow W B hb
  · rintro r W n ⟨h1, B, h2, hb⟩
    exact ⟨h1, B, h2, hb.drewN n⟩
  · rintro r A' c' n W ⟨h1, B, h2, hb⟩ hC hc' hrun
    have hBl : B.length ≤ 6002 := by
      have := congrArg List.length h2
      rw [List.length_append, List.length_append] at this
      omega
    refine (run2_calls hb r h1 A' c' n (fun W' B' hb' => hC W' (hrow W' B' hb')) hc' hrun (by omega)).mono fun e w' ⟨he, hb'⟩ => ⟨he, ?_, _, ?_, hb'⟩
    · rw [List.all_eq_true] at h1 ⊢
      exact fun x hx => h1 x (List.mem_of_mem_drop hx)
    · rw [List.append_assoc, ← packs_step (by omega) hrun]
      exact h2
  · rintro e w' ⟨he, -, B, hB, hb⟩
    rw [packs_nil, List.append_nil] at hB
    exact ⟨he, hB ▸ hb⟩

set_option maxHeartbeats 1000000 in
set_option maxRecDepth 100000 in
theorem Points_bad (A0 : Option Addr) (c0 : Nat) (l0 : List Int) (w : World) (hr0 : Kd.C (Kd.int .i64) w A0 l0.length l0) (hbad : risingB l0 = false) :
    Calls Try.prog 34 #[.slice A0 l0.length c0] w fun e w' => e = .returned (.tuple #[.slice none 0 0, .int .i64 1]) ∧ w = w' := by
  have HC := Aside0.mk (rising_calls A0 c0 l0 w hr0)
  rw [hbad] at HC
  clear hbad hr0
  go_enter Try.func34, Try.ntmps34
  go_wp2_with (go_at_call 71; refine HC.out.mono ?_; rintro e w' ⟨rfl, rfl⟩)
  go_ret2
  exact ⟨rfl, rfl⟩

theorem or_hdr (n : Int) (h0 : 0 ≤ n) (h1 : n < 32768) : bits .or .i64 32768 n = 32768 + n := by
  have h := bits_join .i64 63 (by decide) wraps_i64 15 (x := 32768) (y := n) (by omega) (by omega) (by omega) (by omega) (by omega) (by omega)
  exact h

set_option maxHeartbeats 2000000 in
set_option maxRecDepth 100000 in
theorem Points_ok (A0 : Option Addr) (c0 : Nat) (l0 : List Int) (w : World) (hr0 : Kd.C (Kd.int .i64) w A0 l0.length l0) (hc0 : l0.length ≤ c0) (hgood : risingB l0 = true) :
    Calls Try.prog 34 #[.slice A0 l0.length c0] w fun e w' => ∃ v, e = .returned (.tuple #[v, .int .i64 0]) ∧ Kd.R (Kd.int .u8) 5 w' w.heap.size (fun _ => True) v (hdrP l0.length ++ packs wideOf 128 encP (stepsOf l0)) ∧ Below w.heap.size w w' := by
  have HC := Aside0.mk (rising_calls A0 c0 l0 w hr0)
  rw [hgood] at HC
  have hl : l0.length ≤ 2000 := by simp only [risingB, Bool.and_eq_true, decide_eq_true_eq] at hgood; exact hgood.2
  have HX := Aside0.mk (Boxd.new w w.heap.size (Nat.le_refl _))
  have HR := Aside0.mk (fun (W : World) (hb : Below w.heap.size w W) => Kd.C_below hr0 hb)
  have HG := Aside0.mk hgood
  have HNN := Aside0.mk (rising_nonneg hgood)
  have HSI := Aside0.mk (fun j hj => step_in hgood j hj)
  have HM := Aside0.mk (print_make_int (P := Try.prog) 26 3 (.int .i64 0) 8 Try.underlying26 infoI2 rfl (by decide) (l0.length : Int) (by omega) (by omega))
  simp only [Int.toNat_natCast] at HM
  clear hr0 hgood
  by_cases hs : l0.length < 128
  · go_enter Try.func34, Try.ntmps34
    go_wp2_with (first
      | (go_at_call 71; refine HC.out.mono ?_; rintro e w' ⟨rfl, rfl⟩; have hcellX := HX.out.cell)
      | (go_at_call 19; refine (HX.out.put8 _ (by simp) (by omega) (by omega)).mono ?_; rintro e w2 ⟨rfl, hT⟩; have HT2 := Aside0.mk hT; have hmk := HM.out w2; clear hT))
    have HT3 := Aside0.mk (show Boxd w w2 w.heap.size (w.heap.size + 1) w.heap.size (hdrP l0.length) (.slice none 0 0) [] by
      have h2 := HT2.out
      rw [List.nil_append, show (l0.length : Int) % 256 = (l0.length : Int) by omega] at h2
      unfold hdrP
      rw [if_pos hs]
      exact h2)
    have HT4 := Aside0.mk (HT3.out.made l0.length (by omega))
    obtain ⟨gs, hgs⟩ : ∃ gs, w2.heap.size = gs := ⟨_, rfl⟩
    rw [hgs] at HT4
    simp only [hgs]
    clear HT2 HT3 HX hcellX hmk HM HC hgs
    go_loopw [31] (fun i wr => ∃ j : Nat, i = .int .i64 (j : Int) ∧ j ≤ l0.length ∧ Aside0 (Boxd w wr w.heap.size (w.heap.size + 1) w.heap.size (hdrP l0.length) (.slice (some ⟨gs, 0, none⟩) l0.length l0.length) (stepsTo l0 j))) (fun i _ => l0.length - (intOf i).toNat)
    case atStart => exact ⟨0, rfl, by omega, ⟨by rw [stepsTo_zero]; exact HT4.out⟩⟩
    case round =>
      obtain ⟨j, rfl, hj, HT⟩ := hrel
      clear HT4
      by_cases hlt : j < l0.length
      · obtain ⟨ad, had, -⟩ := (C_reads (HR.out _ HT.out.bel)).at_ (j : Int) (by omega) (by omega)
        subst had
        have hc1 := (cell_at (HR.out _ HT.out.bel) j hlt).2 _ rfl
        have hown := HT.out.own
        rw [stepsTo_len] at hown
        have hat := own_at hown (j : Int) (by omega) (by omega)
        rw [Int.toNat_natCast] at hat
        obtain ⟨hca, hfa⟩ := hat
        have hjl : (j : Int) < (l0.length : Int) := by omega
        have HT1 := Aside0.mk (HT.out.store (stepsTo_len l0 j) j (rd l0 (j : Int)))
        have HST := Aside0.mk (stepsTo_succ l0 j hlt)
        clear hown
        by_cases hj0 : j = 0
        · have HJ0 := Aside0.mk hj0
          have hjz : (j : Int) ≤ 0 := by omega
          clear hj0
          go_wp2_with fail
          refine ⟨⟨j + 1, by go_num, by omega, ⟨?_⟩⟩, by simp [intOf]; omega⟩
          have h1 := HT1.out
          rw [show rd l0 (j : Int) = stepAt l0 j by unfold stepAt; rw [if_pos HJ0.out], HST.out] at h1
          rw [show rd l0 (j : Int) = stepAt l0 j by unfold stepAt; rw [if_pos HJ0.out]]
          exact h1
        · have hjp : (0 : Int) < (j : Int) := by omega
          have hc2 := (cell_at (HR.out _ HT1.out.bel) (j - 1) (by omega)).2 _ rfl
          have hown1 := HT1.out.own
          rw [List.length_set, stepsTo_len] at hown1
          have hat1 := own_at hown1 (j : Int) (by omega) (by omega)
          rw [Int.toNat_natCast] at hat1
          have hrd : rd ((stepsTo l0 j).set j (rd l0 (j : Int))) (j : Int) = rd l0 (j : Int) := by
            have : j < (stepsTo l0 j).length := by rw [stepsTo_len]; exact hlt
            simp [rd, List.getD_eq_getElem?_getD, this]
          rw [hrd] at hat1
          obtain ⟨hcb, hfb⟩ := hat1
          have hn3 : ((j : Int) - 1).toNat = j - 1 := by omega
          have hx := HNN.out (j - 1) (by omega)
          have hy := HNN.out j hlt
          have hx2 := (up_of HG.out (j - 1) (by omega)).2
          have hy2 := (up_of HG.out j hlt).2
          have HT5 := Aside0.mk (HT1.out.store (by rw [List.length_set, stepsTo_len]) j (stepAt l0 j))
          have HSA := Aside0.mk (show stepAt l0 j = rd l0 (j : Int) - rd l0 ((j - 1 : Nat) : Int) by unfold stepAt; rw [if_neg hj0])
          clear hown1 hrd
          go_wp2_with fail
          go_region
          go_wp2_with fail
          refine ⟨⟨j + 1, by go_num, by omega, ⟨?_⟩⟩, by simp [intOf]; omega⟩
          have h5 := HT5.out
          rw [List.set_set, HST.out, HSA.out] at h5
          exact h5.drewN 1
      · obtain rfl : j = l0.length := by omega
        rw [stepsTo_all] at HT
        have hIP : (stepsOf l0).all inP = true := List.all_eq_true.2 fun x hx => by
          have := steps_in HG.out x hx
          simp [inP]; omega
        have HRUN := Aside0.mk (runsP_box HT.out (hdrP_len _) (stepsOf l0) hIP (by rw [stepsOf_len]; exact hl) (some ⟨gs, 0, none⟩) l0.length (fun W B' hb => hb.row) (by rw [stepsOf_len]; exact Nat.le_refl _))
        rw [stepsOf_len] at HRUN
        have HL3 := Aside0.mk (show (hdrP l0.length ++ packs wideOf 128 encP (stepsOf l0)).length ≤ 1048576 by
          have h1 := packsP_len (stepsOf l0)
          rw [stepsOf_len] at h1
          have h2 := hdrP_len l0.length
          rw [List.length_append]; omega)
        clear HR hj hIP
        go_wp2_with (first
          | (go_at_call 68; refine HRUN.out.mono ?_; rintro e w3 ⟨rfl, hb⟩; have HB2 := Aside0.mk hb; have hcell := hb.cell; clear hb)
          | (go_at_call 22; obtain ⟨ok, hPg⟩ := HB2.out.pg; refine (All_calls hPg).mono ?_; rintro e w4 ⟨vb, rfl, hR, hB⟩; rw [(allP _ HL3.out).1]; rw [(allP _ HL3.out).2] at hR; have HR3 := Aside0.mk hR; have HB3 := Aside0.mk hB; clear hPg ok hR hB))
        go_ret2
        have hsz := HB2.out.base_le
        exact ⟨_, rfl, Kd.R_lower HR3.out hsz, below_then HB2.out.bel hsz HB3.out⟩
  · have hor := or_hdr (l0.length : Int) (by omega) (by omega)
    go_enter Try.func34, Try.ntmps34
    go_wp2_with (first
      | (go_at_call 71; refine HC.out.mono ?_; rintro e w' ⟨rfl, rfl⟩; have hcellX := HX.out.cell)
      | (go_at_call 18; refine (HX.out.put16 _ (by simp) (by omega) (by omega)).mono ?_; rintro e w2 ⟨rfl, hT⟩; have HT2 := Aside0.mk hT; have hmk := HM.out w2; clear hT))
    have HT3 := Aside0.mk (show Boxd w w2 w.heap.size (w.heap.size + 1) w.heap.size (hdrP l0.length) (.slice none 0 0) [] by
      have h2 := HT2.out
      rw [List.nil_append, show (32768 + (l0.length : Int)) / 256 % 256 = 128 + (l0.length : Int) / 256 by omega, show (32768 + (l0.length : Int)) % 256 = (l0.length : Int) % 256 by omega] at h2
      unfold hdrP
      rw [if_neg hs]
      exact h2)
    have HT4 := Aside0.mk (HT3.out.made l0.length (by omega))
    obtain ⟨gs, hgs⟩ : ∃ gs, w2.heap.size = gs := ⟨_, rfl⟩
    rw [hgs] at HT4
    simp only [hgs]
    clear HT2 HT3 HX hcellX hmk HM HC hgs
    go_loopw [31] (fun i wr => ∃ j : Nat, i = .int .i64 (j : Int) ∧ j ≤ l0.length ∧ Aside0 (Boxd w wr w.heap.size (w.heap.size + 1) w.heap.size (hdrP l0.length) (.slice (some ⟨gs, 0, none⟩) l0.length l0.length) (stepsTo l0 j))) (fun i _ => l0.length - (intOf i).toNat)
    case atStart => exact ⟨0, rfl, by omega, ⟨by rw [stepsTo_zero]; exact HT4.out⟩⟩
    case round =>
      obtain ⟨j, rfl, hj, HT⟩ := hrel
      clear HT4
      by_cases hlt : j < l0.length
      · obtain ⟨ad, had, -⟩ := (C_reads (HR.out _ HT.out.bel)).at_ (j : Int) (by omega) (by omega)
        subst had
        have hc1 := (cell_at (HR.out _ HT.out.bel) j hlt).2 _ rfl
        have hown := HT.out.own
        rw [stepsTo_len] at hown
        have hat := own_at hown (j : Int) (by omega) (by omega)
        rw [Int.toNat_natCast] at hat
        obtain ⟨hca, hfa⟩ := hat
        have hjl : (j : Int) < (l0.length : Int) := by omega
        have HT1 := Aside0.mk (HT.out.store (stepsTo_len l0 j) j (rd l0 (j : Int)))
        have HST := Aside0.mk (stepsTo_succ l0 j hlt)
        clear hown
        by_cases hj0 : j = 0
        · have HJ0 := Aside0.mk hj0
          have hjz : (j : Int) ≤ 0 := by omega
          clear hj0
          go_wp2_with fail
          refine ⟨⟨j + 1, by go_num, by omega, ⟨?_⟩⟩, by simp [intOf]; omega⟩
          have h1 := HT1.out
          rw [show rd l0 (j : Int) = stepAt l0 j by unfold stepAt; rw [if_pos HJ0.out], HST.out] at h1
          rw [show rd l0 (j : Int) = stepAt l0 j by unfold stepAt; rw [if_pos HJ0.out]]
          exact h1
        · have hjp : (0 : Int) < (j : Int) := by omega
          have hc2 := (cell_at (HR.out _ HT1.out.bel) (j - 1) (by omega)).2 _ rfl
          have hown1 := HT1.out.own
          rw [List.length_set, stepsTo_len] at hown1
          have hat1 := own_at hown1 (j : Int) (by omega) (by omega)
          rw [Int.toNat_natCast] at hat1
          have hrd : rd ((stepsTo l0 j).set j (rd l0 (j : Int))) (j : Int) = rd l0 (j : Int) := by
            have : j < (stepsTo l0 j).length := by rw [stepsTo_len]; exact hlt
            simp [rd, List.getD_eq_getElem?_getD, this]
          rw [hrd] at hat1
          obtain ⟨hcb, hfb⟩ := hat1
          have hn3 : ((j : Int) - 1).toNat = j - 1 := by omega
          have hx := HNN.out (j - 1) (by omega)
          have hy := HNN.out j hlt
          have hx2 := (up_of HG.out (j - 1) (by omega)).2
          have hy2 := (up_of HG.out j hlt).2
          have HT5 := Aside0.mk (HT1.out.store (by rw [List.length_set, stepsTo_len]) j (stepAt l0 j))
          have HSA := Aside0.mk (show stepAt l0 j = rd l0 (j : Int) - rd l0 ((j - 1 : Nat) : Int) by unfold stepAt; rw [if_neg hj0])
          clear hown1 hrd
          go_wp2_with fail
          go_region
          go_wp2_with fail
          refine ⟨⟨j + 1, by go_num, by omega, ⟨?_⟩⟩, by simp [intOf]; omega⟩
          have h5 := HT5.out
          rw [List.set_set, HST.out, HSA.out] at h5
          exact h5.drewN 1
      · obtain rfl : j = l0.length := by omega
        rw [stepsTo_all] at HT
        have hIP : (stepsOf l0).all inP = true := List.all_eq_true.2 fun x hx => by
          have := steps_in HG.out x hx
          simp [inP]; omega
        have HRUN := Aside0.mk (runsP_box HT.out (hdrP_len _) (stepsOf l0) hIP (by rw [stepsOf_len]; exact hl) (some ⟨gs, 0, none⟩) l0.length (fun W B' hb => hb.row) (by rw [stepsOf_len]; exact Nat.le_refl _))
        rw [stepsOf_len] at HRUN
        have HL3 := Aside0.mk (show (hdrP l0.length ++ packs wideOf 128 encP (stepsOf l0)).length ≤ 1048576 by
          have h1 := packsP_len (stepsOf l0)
          rw [stepsOf_len] at h1
          have h2 := hdrP_len l0.length
          rw [List.length_append]; omega)
        clear HR hj hIP
        go_wp2_with (first
          | (go_at_call 68; refine HRUN.out.mono ?_; rintro e w3 ⟨rfl, hb⟩; have HB2 := Aside0.mk hb; have hcell := hb.cell; clear hb)
          | (go_at_call 22; obtain ⟨ok, hPg⟩ := HB2.out.pg; refine (All_calls hPg).mono ?_; rintro e w4 ⟨vb, rfl, hR, hB⟩; rw [(allP _ HL3.out).1]; rw [(allP _ HL3.out).2] at hR; have HR3 := Aside0.mk hR; have HB3 := Aside0.mk hB; clear hPg ok hR hB))
        go_ret2
        have hsz := HB2.out.base_le
        exact ⟨_, rfl, Kd.R_lower HR3.out hsz, below_then HB2.out.bel hsz HB3.out⟩

theorem packed_Points.calls (A0 : Option Addr) (c0 : Nat) (l0 : List Int) (r1 : List Int) (r2 : Int) (w : World) (hr0 : Kd.C (Kd.int .i64) w A0 l0.length l0) (hc0 : l0.length ≤ c0) (h : packed_Points.f l0 = some (r1, r2)) :
    Calls Try.prog 34 #[.slice A0 l0.length c0] w fun e w' => ∃ v0_, e = .returned (.tuple #[v0_, .int .i64 r2]) ∧ Kd.R (Kd.int .u8) 5 w' w.heap.size (fun _ => True) v0_ r1 ∧ Below w.heap.size w w' := by
  unfold packed_Points.f at h
  have HN := Kd.R_nil (Kd.int .u8) 5 w w.heap.size (fun _ => True)
  by_cases hg : risingB l0 = true
  · rw [if_pos hg] at h
    injection h with h
    injection h with h1 h2
    subst h1 h2
    exact Points_ok A0 c0 l0 w hr0 hc0 hg
  · rw [if_neg hg] at h
    injection h with h
    injection h with h1 h2
    subst h1 h2
    refine (Points_bad A0 c0 l0 w hr0 (by simpa using hg)).mono ?_
    rintro e w' ⟨rfl, rfl⟩
    exact ⟨_, rfl, HN, Below.refl _ _⟩
end Go.Proofs.Ytmppdgjnibamlaa.Pag
