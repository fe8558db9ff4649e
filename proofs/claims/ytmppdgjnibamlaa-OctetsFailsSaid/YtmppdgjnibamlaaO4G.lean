/- OctetsLater: the walk. -/
import Derived.Test.YtmppdgjnibamlaaO4E
import Derived.Test.YtmppdgjnibamlaaO4C
import Derived.Outline
namespace Go.Proofs.Ytmppdgjnibamlaa.Pag
open Go.RowKit Go.Proofs.YtmppdgjnibamlaaW.PrintWords
set_option linter.unusedVariables false
set_option linter.unusedSimpArgs false

theorem own_cell {W : World} {base gm c : Nat} {xs : List Int} (h : W.ownsRow base 3 1 (.slice (some ⟨gm, 0, none⟩) xs.length c) xs.length (nums .i64 xs)) (j : Nat) (hj : j < xs.length) :
    W.cell? ⟨gm, j, none⟩ = some (.int .i64 (rd xs (j : Int))) := by
  have := (own_at h (j : Int) (by omega) (by omega)).1
  simpa using this
theorem own_form {W : World} {base n : Nat} {A : Option Addr} {c : Nat} {xs : List Value} (h : W.ownsRow base 3 1 (.slice A n c) n xs) (hn : 0 < n) : ∃ gm, A = some ⟨gm, 0, none⟩ := by
  obtain ⟨g, cap, he, _, _⟩ := h.form hn
  injection he with h1 h2 h3
  exact ⟨g, h1⟩
theorem later_first (j : Nat) (hj : j ≤ 1000) : laterB false (1 :: List.replicate (4 * j) 0) = 1 :: List.replicate (4 * (j + 1)) 0 ∧ laterW false (1 :: List.replicate (4 * j) 0) (marksOf j) = marksOf (j + 1) := by
  have ho := over_small (B := 1 :: List.replicate (4 * j) 0) (by simp; omega)
  unfold laterB laterW
  rw [ho, if_neg (by simp), if_neg (by simp), marks_succ]
  refine ⟨?_, by simp; omega⟩
  rw [List.cons_append, show 4 * (j + 1) = 4 * j + 4 by omega, ← List.replicate_append_replicate]
  rfl
theorem put_step (B : List Int) (k : Nat) (hB : B.length ≤ 1000000) (hk : k ≤ 255) : putB false B (k : Int) 1 = B ++ [(k : Int)] ∧ putF false B (k : Int) 1 = false := by
  have ho := over_small (B := B) (by omega)
  rw [putB_ok ho (by omega) (by omega), putF_ok ho (by omega) (by omega), be1]
  exact ⟨by rw [show (k : Int) % 256 = (k : Int) by omega], rfl⟩
theorem idx_head (x : Int) (l : List Int) : idx (x :: l) x = 0 := by
  have : rd (x :: l) ((0 : Nat) : Int) = x := by simp [rd]
  unfold idx
  rw [List.length_cons]
  simp only [idxFrom]
  rw [if_pos this.symm]
  rfl
theorem now_step (l : List Int) (i : Nat) (hl : l.length ≤ 100) (hi : i < l.length) :
    nowB false (filled l i ++ steps (cnt l i)) ((marksOf l.length).drop i) (1 + 4 * (i : Int)) 1 = filled l (i + 1) ∧
    nowW false (filled l i ++ steps (cnt l i)) ((marksOf l.length).drop i) (1 + 4 * (i : Int)) 1 = (marksOf l.length).drop (i + 1) ∧
    nowF false (filled l i ++ steps (cnt l i)) ((marksOf l.length).drop i) (1 + 4 * (i : Int)) 1 = false := by
  have h1 := filled_length l i
  have h2 := cnt_lt l i
  have hlen : (filled l i ++ steps (cnt l i)).length = (filled l i).length + cnt l i := by rw [List.length_append, steps_length]
  have ho := over_small (B := filled l i ++ steps (cnt l i)) (by omega)
  have hd : (marksOf l.length).drop i = (1 + 4 * (i : Int)) :: (marksOf l.length).drop (i + 1) := by
    rw [List.drop_eq_getElem_cons (by rw [marks_length]; exact hi)]
    congr 1
    simp [marksOf]
  have hc : ¬ ((0 : Int) < 0 ∨ (1 : Int) > ((filled l i ++ steps (cnt l i)).length : Int) ∨ (1 : Int) < -2147483648) := by rw [hlen]; omega
  have hx : idx ((marksOf l.length).drop i) (1 + 4 * (i : Int)) = 0 := by rw [hd]; exact idx_head _ _
  refine ⟨?_, ?_, ?_⟩
  · unfold nowB
    rw [ho, if_neg (by simp), hx, if_neg hc, filled, show (1 + 4 * (i : Int)).toNat = 1 + 4 * i by omega]
  · unfold nowW
    rw [ho, if_neg (by simp), hx, if_neg hc, hd]
    rfl
  · unfold nowF
    rw [ho, if_neg (by simp), hx, if_neg hc]
theorem waits_in (l : List Int) (i : Nat) (B : List Int) (hB : 1 + 4 * l.length ≤ B.length) : ∀ x ∈ (marksOf l.length).drop i, 0 ≤ x ∧ x + 4 ≤ (B.length : Int) := by
  intro x hx
  have := List.mem_of_mem_drop hx
  simp only [marksOf, List.mem_map, List.mem_range] at this
  obtain ⟨k, hk, rfl⟩ := this
  omega
theorem all_waits (B : List Int) (n i : Nat) (h : i < n) : allE false B ((marksOf n).drop i) = 1 := by
  have : 0 < ((marksOf n).drop i).length := by rw [List.length_drop, marks_length]; omega
  simp only [allE, if_pos this]
  rfl

set_option maxHeartbeats 4000000 in
set_option maxRecDepth 4000000 in
theorem later_walk (A0 : Option Addr) (c0 : Nat) (l0 : List Int) (w : World) (hr0 : Kd.C (Kd.int .u8) w A0 l0.length l0) (hc0 : l0.length ≤ c0) (hw : ∀ x ∈ l0, 0 ≤ x ∧ x ≤ 255) :
    Calls Try.prog 4 #[.slice A0 l0.length c0] w fun e w' => e = .returned (.bool true) ∧ Below w.heap.size w w' := by
  have HR0 := Aside0.mk hr0
  clear hr0
  by_cases hlen : 100 < l0.length
  · go_enter Try.func4, Try.ntmps4
    have HB := Aside0.mk (Below.refl w.heap.size w)
    go_wp2_with (go_at_call 15; refine (awake4_calls _).mono ?_; rintro e w1 ⟨rfl, hB⟩; have HB1 := Aside0.mk (below_then HB.out HB.out.size hB); clear hB HB; have HB := HB1; clear HB1)
    go_ret
    exact ⟨rfl, HB.out⟩
  · go_enter Try.func4, Try.ntmps4
    go_wp2_with (first
      | (go_at_call 15; refine (awake4_calls _).mono ?_; rintro e w1 ⟨rfl, hB⟩; have HT := Aside0.mk (Three.start (Pg.new w1 w.heap.size hB.size) (hB.alloc hB.size (.cells #[.slice none 0 0, .slice none 0 0, .bool false] 28))); clear hB)
      | (go_at_call 19; refine (HT.out.call (fun ok h => Put8_calls h _)).mono ?_; rintro e w2 ⟨rfl, hT⟩; rw [show putB false [] 1 1 = [1] by decide, show putF false [] 1 1 = false by decide] at hT; have HT2 := Aside0.mk hT; clear hT HT)
      | (go_at_call 16; obtain ⟨ok, hPg⟩ := HT2.out.pg; refine (here_calls hPg).mono ?_; rintro e w' ⟨rfl, rfl⟩; rw [show (([1] : List Int).length : Int) = 1 from rfl]; clear hPg ok))
    go_loopw [5, 7] (fun v i wr => ∃ j : Nat, i = .int .i64 (j : Int) ∧ Aside0 (j ≤ l0.length) ∧ Aside0 (Three w wr w.heap.size w1.heap.size (1 :: List.replicate (4 * j) 0) (marksOf j) false v (marksOf j) (.slice none 0 0) [])) (fun _ i _ => l0.length - (intOf i).toNat)
    case atStart => exact ⟨0, rfl, ⟨by omega⟩, HT2⟩
    case round =>
      obtain ⟨j, rfl, HJ, HT⟩ := hrel
      have hj := HJ.out
      clear HT2
      by_cases hlt : j < l0.length
      · have HL := Aside0.mk (show ((1 :: List.replicate (4 * j) 0 : List Int).length : Int) = 1 + 4 * (j : Int) by simp; omega)
        clear hj
        go_wp2_with (first
          | (go_at_call 27; refine (HT.out.call (fun ok h => Later_calls h (by rw [marks_length]; omega))).mono ?_; rintro e w3 ⟨rfl, hT⟩; rw [HL.out]; have HT3 := Aside0.mk hT; clear hT)
          | (at_builtin; refine print_append_num (w0 := w) w.heap.size rfl (.tmp 37) (.tmp 40) 26 3 .i64 8 rfl Try.underlying26 infoI (by decide) _ (marksOf j) (1 + 4 * (j : Int)) rfl rfl HT3.out.own1 HT3.out.bel HT3.out.base_le (by rw [marks_length]; omega) ?_; intro v1 wA hown hB hgrow hat; have HT4 := Aside0.mk (HT3.out.app1 hown hB hgrow hat); clear hown hB hgrow hat HT3))
        go_roundw
        case rel =>
          refine ⟨j + 1, by go_num, ⟨by omega⟩, ⟨?_⟩⟩
          have h4 := HT4.out
          rw [(later_first j (by omega)).1, (later_first j (by omega)).2, ← marks_succ] at h4
          exact h4
        case measure => simp [intOf]; omega
      · obtain rfl : j = l0.length := by omega
        obtain ⟨Am, cm, hv⟩ := own_slice HT.out.own1
        subst hv
        have HT0 := Aside0.mk (show Three w wr w.heap.size w1.heap.size (filled l0 0) ((marksOf l0.length).drop 0) false (.slice Am (marksOf l0.length).length cm) (marksOf l0.length) (.slice none 0 0) (placesL l0 0) from HT.out)
        clear HT hj hlt
        go_wp2_with fail
        go_loopw [6, 8] (fun u i wr => ∃ j : Nat, i = .int .i64 (j : Int) ∧ Aside0 (j ≤ l0.length) ∧ Aside0 (Three w wr w.heap.size w1.heap.size (filled l0 j) ((marksOf l0.length).drop j) false (.slice Am (marksOf l0.length).length cm) (marksOf l0.length) u (placesL l0 j))) (fun _ i _ => l0.length - (intOf i).toNat)
        case atStart => exact ⟨0, rfl, ⟨by omega⟩, HT0⟩
        case round =>
          clear HT0
          obtain ⟨i, rfl, HJ2, HT⟩ := hrel
          have hi := HJ2.out
          by_cases hlt2 : i < l0.length
          · obtain ⟨hx0, hx1⟩ := hw _ (rd_mem hlt2)
            have HFL := Aside0.mk (filled_length l0 i)
            have HCT := Aside0.mk (cnt_lt l0 i)
            have HCI := Aside0.mk (show ((cnt l0 i : Nat) : Int) = rd l0 (i : Int) % 20 by unfold cnt; omega)
            have HRA := Aside0.mk (fun (w' : World) (hb : Below w.heap.size w w') => (elem_at (Kd.C_below HR0.out hb) i hlt2).2)
            obtain ⟨ad, had, -⟩ := (C_reads (Kd.C_below HR0.out HT.out.bel)).at_ (i : Int) (by omega) (by omega)
            obtain ⟨gm, hgm⟩ := own_form HT.out.own1 (by rw [marks_length]; omega)
            subst had hgm
            clear hi
            go_wp2_with (go_at_call 22; obtain ⟨ok, hPg⟩ := HT.out.pg; refine (All_calls hPg).mono ?_; rintro e w3 ⟨vb, rfl, hR, hB⟩; rw [all_waits _ _ _ hlt2]; have HT3 := Aside0.mk (HT.out.below hB); clear hPg ok hR hB HT)
            go_loopw [11] (fun s wq => ∃ k : Nat, s = .int .i64 (k : Int) ∧ Aside0 (k ≤ cnt l0 i) ∧ Aside0 (Three w wq w.heap.size w1.heap.size (filled l0 i ++ steps k) ((marksOf l0.length).drop i) false (.slice (some ⟨gm, 0, none⟩) (marksOf l0.length).length cm) (marksOf l0.length) (u6) (placesL l0 i))) (fun s _ => cnt l0 i - (intOf s).toNat)
            case atStart => exact ⟨0, rfl, ⟨by omega⟩, ⟨by have h3 := HT3.out; rw [show filled l0 i ++ steps 0 = filled l0 i by simp [steps]]; exact h3⟩⟩
            case round =>
              obtain ⟨k, rfl, HK, HT⟩ := hrel
              have hk := HK.out
              clear HT3
              have hcell := HRA.out _ HT.out.bel _ rfl
              by_cases hlt3 : k < cnt l0 i
              · have HLT := Aside0.mk (show ((k : Nat) : Int) < rd l0 (i : Int) % 20 by have := HCI.out; omega)
                have hltz := HLT.out
                have hk20 := HCT.out
                clear hk
                go_wp2_with (go_at_call 19; refine (HT.out.call (fun ok h => Put8_calls h _)).mono ?_; rintro e w4 ⟨rfl, hT⟩; have HT4 := Aside0.mk hT; clear hT HT)
                go_roundw
                case rel =>
                  refine ⟨k + 1, by go_num, ⟨by omega⟩, ⟨?_⟩⟩
                  have h4 := HT4.out
                  have e := put_step (filled l0 i ++ steps k) k (by have := HFL.out; rw [List.length_append, steps_length]; omega) (by omega)
                  rw [e.1, e.2, List.append_assoc, ← steps_succ] at h4
                  exact h4
                case measure => simp [intOf]; omega
              · obtain rfl : k = cnt l0 i := by omega
                have hge := HCI.out
                have HLEN := Aside0.mk (show ((filled l0 i ++ steps (cnt l0 i)).length : Int) = placeL l0 i + 1 by unfold placeL; omega)
                have hpr := placeL_range l0 i (by omega) hlt2
                have hnn : ¬ ((cnt l0 i : Nat) : Int) < rd l0 (i : Int) % 20 := by omega
                clear hge hk HJ HCT
                have HMK := Aside0.mk (fun (W : World) (h : W.ownsRow w.heap.size 3 1 (.slice (some ⟨gm, 0, none⟩) (marksOf l0.length).length cm) (marksOf l0.length).length (nums .i64 (marksOf l0.length))) => (marks_rd l0.length i hlt2 ▸ own_cell h i (by rw [marks_length]; exact hlt2)))
                have hml : (i : Int) < ((marksOf l0.length).length : Int) := by rw [marks_length]; omega
                go_wp2_with (first
                  | (go_at_call 16; obtain ⟨ok, hPg⟩ := HT.out.pg; refine (here_calls hPg).mono ?_; rintro e w' ⟨rfl, rfl⟩; rw [HLEN.out]; clear hPg ok)
                  | (at_builtin; refine print_append_num (w0 := w) w.heap.size rfl (.tmp 68) (.tmp 73) 26 3 .i64 8 rfl Try.underlying26 infoI (by decide) _ (placesL l0 i) (placeL l0 i) rfl rfl HT.out.own2 HT.out.bel HT.out.base_le (by rw [placesL_length]; omega) ?_; intro v1 wA hown hB hgrow hat; have HT4 := Aside0.mk ((HT.out.swap.app1 hown hB hgrow hat).swap); have hmk := HMK.out _ HT4.out.own1; clear hown hB hgrow hat HT)
                  | (go_at_call 28; refine (HT4.out.call (fun ok h => Now_calls h _ _ (waits_in l0 i _ (by have := HFL.out; rw [List.length_append]; omega)))).mono ?_; rintro e w5 ⟨rfl, hT⟩; have HT5 := Aside0.mk hT; clear hT HT4))
                go_roundw
                case rel =>
                  refine ⟨i + 1, by go_num, ⟨by omega⟩, ⟨?_⟩⟩
                  have h5 := HT5.out
                  have e := now_step l0 i (by omega) hlt2
                  rw [e.1, e.2.1, e.2.2, ← placesL_succ] at h5
                  exact h5
                case measure => simp [intOf]; omega
          · obtain rfl : i = l0.length := by omega
            have HFL := Aside0.mk (filled_length l0 l0.length)
            have HFO := Aside0.mk (all_ok (filled l0 l0.length) (by have := HFL.out; omega))
            have hd0 : (marksOf l0.length).drop l0.length = [] := List.drop_eq_nil_of_le (by rw [marks_length]; omega)
            rw [hd0] at HT
            obtain ⟨Ap, cp, hv⟩ := own_slice HT.out.own2
            subst hv
            clear hi
            go_wp2_with (go_at_call 22; obtain ⟨ok, hPg⟩ := HT.out.pg; refine (All_calls hPg).mono ?_; rintro e w2 ⟨vb, rfl, hR, hB⟩; rw [HFO.out.1]; rw [HFO.out.2] at hR; obtain ⟨Ab, cb, hvb, hleb, hCb⟩ := Kd.R_reads hR; subst hvb; have HT2 := Aside0.mk (HT.out.below hB); have HCb := Aside0.mk (And.intro hleb hCb); clear hPg ok hR hB hleb hCb HT)
            go_loopw [14] (fun i wr => ∃ j n : Nat, i = .int .i64 (j : Int) ∧ Aside0 (j ≤ l0.length) ∧ wr = w2.drewN n) (fun i _ => l0.length - (intOf i).toNat)
            case atStart => exact ⟨0, 0, rfl, ⟨by omega⟩, rfl⟩
            case round =>
              obtain ⟨j, n, rfl, HJ2, rfl⟩ := hrel
              have hj := HJ2.out
              by_cases hlt2 : j < l0.length
              · obtain ⟨gm, hgm⟩ := own_form HT2.out.own1 (by rw [marks_length]; omega)
                obtain ⟨gp, hgp⟩ := own_form HT2.out.own2 (by rw [placesL_length]; omega)
                subst hgm hgp
                have hc1 := own_cell HT2.out.own1 j (by rw [marks_length]; omega)
                have hc2 := own_cell HT2.out.own2 j (by rw [placesL_length]; omega)
                rw [marks_rd _ _ hlt2] at hc1
                rw [placesL_rd _ _ _ hlt2] at hc2
                have hml : (j : Int) < ((marksOf l0.length).length : Int) := by rw [marks_length]; omega
                have hpl : (j : Int) < ((placesL l0 l0.length).length : Int) := by rw [placesL_length]; omega
                have K4 := Aside0.mk (fun m => octets_U32.calls Ab cb (filled l0 l0.length) (1 + 4 * (j : Int)) _ _ (w2.drewN m) (Kd.C_drewN HCb.out.2 m) HCb.out.1 (later_U32 l0 j (by omega) hlt2))
                have hpr := placeL_range l0 j (by omega) hlt2
                clear hj
                go_wp2_with (go_at_call 29; refine (K4.out _).mono ?_; rintro e w' ⟨rfl, hd⟩; obtain ⟨nd, rfl⟩ := hd.out)
                go_roundw
                case rel => exact ⟨j + 1, _, by go_num, ⟨by omega⟩, rfl⟩
                case measure => simp [intOf]; omega
              · obtain rfl : j = l0.length := by omega
                clear hj
                go_wp2_with fail
                go_ret
                exact ⟨rfl, pw_below_drewN HT2.out.bel _⟩
end Go.Proofs.Ytmppdgjnibamlaa.Pag
