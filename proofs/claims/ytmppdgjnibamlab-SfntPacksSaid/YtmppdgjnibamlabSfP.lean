/- sfnt.Pack: the contract, in the print's form. No condition but its own premises. -/
import Derived.Test.YtmppdgjnibamlabSfM
namespace Go.Proofs.Ytmppdgjnibamlab.Pag
open Go.RowKit Go.Proofs.Ytmppdgjnibamlab.PSf Go.Proofs.YtmppdgjnibamlabW.PrintWords
set_option linter.unusedVariables false
set_option linter.unusedSimpArgs false

def put4 : List Int → St → St
  | [], s => s
  | x :: r, s => put4 r (s16 s x)
theorem sortT_len (l : List S115) : (sortT l).length = l.length := (sortT_perm l).length_eq
theorem fits_len {l : List S115} (h : fits l = true) : l.length ≤ 140737488351232 ∧ ∀ t ∈ l, t.f0.size ≤ 140737488351232 := by
  simpa [fits] using h
theorem fm_len {l : List S115} (h : fm l = true) : 1 ≤ l.length ∧ l.length ≤ 32 ∧ ∀ t ∈ l, t.f1.length ≤ 1048576 := by
  simp only [fm, Bool.and_eq_true, List.all_eq_true, List.mem_range, decide_eq_true_eq] at h
  refine ⟨h.1.2, h.2, fun t ht => ?_⟩
  obtain ⟨i, hi, rfl⟩ := List.mem_iff_getElem.1 ht
  have h1 := h.1.1 i hi
  simp only [fmAt, Bool.and_eq_true, decide_eq_true_eq] at h1
  have e : rd_T115 l (i : Int) = l[i] := by simp [rd_T115, hi]
  rw [e] at h1
  exact h1.2
theorem C_cell {w w1 : World} {B : Nat} {a : Addr} {v : Value} (hb : Below w.heap.size w w1) (h : w.cell? a = some v) : w1.cell? a = some v := pw_cell_below hb h

theorem wz1 {L : Nat} (h : L ≤ 1048576) : wrap64 ((L : Int) + 3) = (L : Int) + 3 := by unfold wrap64; omega
theorem wz2 {L : Nat} (h : L ≤ 1048576) : wrap64 (((L : Int) + 3) / 4) = ((L : Int) + 3) / 4 := by
  obtain ⟨q, hq⟩ : ∃ q, ((L : Int) + 3) / 4 = q := ⟨_, rfl⟩
  have : 0 ≤ q ∧ q ≤ 1048580 := by omega
  rw [hq]; unfold wrap64; omega
theorem wz3 {L : Nat} (h : L ≤ 1048576) : wrap64 (((L : Int) + 3) / 4 * 4) = ((L : Int) + 3) / 4 * 4 := by
  obtain ⟨q, hq⟩ : ∃ q, ((L : Int) + 3) / 4 = q := ⟨_, rfl⟩
  have : 0 ≤ q ∧ q ≤ 1048580 := by omega
  rw [hq]; unfold wrap64; omega
theorem wz4 {L : Nat} {a : Int} (h : L ≤ 1048576) (h0 : 0 ≤ a) (h1 : a ≤ 1000000000) : wrap64 (a + ((L : Int) + 3) / 4 * 4) = a + ((L : Int) + 3) / 4 * 4 ∧ 0 ≤ ((L : Int) + 3) / 4 * 4 ∧ ((L : Int) + 3) / 4 * 4 ≤ 1048580 := by
  obtain ⟨q, hq⟩ : ∃ q, ((L : Int) + 3) / 4 = q := ⟨_, rfl⟩
  have : 0 ≤ q ∧ q ≤ 262145 := by omega
  rw [hq]; unfold wrap64; omega
set_option maxHeartbeats 4000000 in
set_option maxRecDepth 100000 in
theorem Pack_ok (A0 : Option Addr) (c0 : Nat) (l0 : List S115) (w : World) (hr0 : Kd.C k115 w A0 l0.length l0) (hc0 : l0.length ≤ c0) (hfit : fits l0 = true) (hfm : fm l0 = true) :
    Calls Try.prog 36 #[.slice A0 l0.length c0] w fun e w' => ∃ v0_ : Value, e = .returned (.tuple #[v0_, .int .i64 (allE (packS (sortT l0)).1 (packS (sortT l0)).2 [])]) ∧ Kd.R (Kd.int .u8) 5 w' w.heap.size (fun _ => True) v0_ (allB (packS (sortT l0)).1 (packS (sortT l0)).2 []) ∧ Below w.heap.size w w' := by
  have hn1 := (fm_len hfm).1
  have hn2 := (fm_len hfm).2.1
  have HFM := Aside0.mk (sfnt_Formed.calls A0 c0 l0 true w hr0 hc0 (by unfold sfnt_Formed.f; rw [if_pos hfit, hfm]))
  have HCL := Aside0.mk (fun (W : World) (hb : Below w.heap.size w W) => clone_calls A0 c0 l0 W (Kd.C_below hr0 hb) (by omega) (by omega))
  have HAP := Aside0.mk (fm_apart hfm)
  have HMT : Aside0 (∀ t ∈ sortT l0, t.f1.length ≤ 1048576 ∧ t.f0.size ≤ 140737488351232) := ⟨fun t ht => ⟨(fm_len hfm).2.2 t ((sortT_perm l0).mem_iff.1 ht), (fits_len hfit).2 t ((sortT_perm l0).mem_iff.1 ht)⟩⟩
  have HML := Aside0.mk (sortT_len l0)
  clear hr0 hc0 hfit hfm
  obtain ⟨m, hm⟩ : ∃ m, sortT l0 = m := ⟨_, rfl⟩
  rw [hm] at HMT HML ⊢
  have HMM := Aside0.mk hm
  clear hm
  go_enter Try.func36, Try.ntmps36
  go_wp2_with (first
    | (go_at_call 42; refine HFM.out.mono ?_; rintro e w1 ⟨rfl, hb⟩; have HB1 := Aside0.mk hb; clear hb HFM)
    | (go_at_call 73; refine (HCL.out _ HB1.out).mono ?_; rintro e w2 ⟨g, cap, rfl, hC, hb⟩; have HC2 := Aside0.mk hC; have HB2 := Aside0.mk hb; clear hC hb HCL)
    | (go_at_call 74; refine (sort_calls cap HC2.out HB2.out HAP.out).mono ?_; rintro e w3 ⟨rfl, hC, hb⟩; have HC3 := Aside0.mk (CellsT.C hC hb); have HB3 := Aside0.mk (below_then HB1.out HB1.out.size hb); clear hC hb HC2 HB2 HB1))
  obtain ⟨n, hn⟩ : ∃ n, l0.length = n := ⟨_, rfl⟩
  obtain ⟨ad, had⟩ : ∃ ad : Addr, (⟨g, 0, none⟩ : Addr) = ad := ⟨_, rfl⟩
  rw [hn] at hn1 hn2 HML
  rw [HMM.out, HML.out, had] at HC3
  simp only [hn, had]
  clear hn had HAP HMM
  have HP0 : Aside0 (packS m = bodS m (dirS m (12 + 16 * (n : Int)) (headS n))) := ⟨by unfold packS; rw [HML.out]⟩
  go_loopw [5, 6] (fun p q wr => ∃ k pk : Nat, p = .int .i64 (pk : Int) ∧ q = .int .i64 (k : Int) ∧ Aside0 (pk = 2 ^ k) ∧ 1 ≤ pk ∧ pk ≤ n ∧ k < pk ∧ w3 = wr) (fun p _ _ => n - (RowKit.intOf p).toNat)
  case atStart => exact ⟨0, 1, rfl, rfl, ⟨rfl⟩, by omega, by omega, by omega, rfl⟩
  case round =>
    obtain ⟨k, pk, rfl, rfl, HPK, hp1, hle, hlt, rfl⟩ := hrel
    have hw2 : wrap64 (2 * (pk : Int)) = 2 * (pk : Int) := by unfold wrap64; omega
    have hw1 : wrap64 ((k : Int) + 1) = (k : Int) + 1 := by unfold wrap64; omega
    by_cases h2 : 2 * pk ≤ n
    · have h2' : 2 * (pk : Int) ≤ (n : Int) := by omega
      go_wp2
      go_roundw
      case rel => exact ⟨k + 1, 2 * pk, by go_num, by go_num, ⟨by rw [HPK.out, Nat.pow_succ]; omega⟩, by omega, h2, by omega, by trivial⟩
      case measure => simp [RowKit.intOf]; omega
    · have h2' : (n : Int) < 2 * (pk : Int) := by omega
      have hpk := HPK.out
      have hk : n.log2 = k := (Nat.log2_eq_iff (by omega)).2 ⟨by omega, by rw [Nat.pow_succ]; omega⟩
      obtain ⟨s0, hs0⟩ : ∃ s0 : St, (false, []) = s0 := ⟨_, rfl⟩
      have HH : Aside0 (put4 [(n : Int), 16 * (pk : Int), (k : Int), 16 * ((n : Int) - (pk : Int))] (s32 s0 65536) = headS n) := ⟨by unfold headS; rw [hk, ← hpk, hs0]; rfl⟩
      clear hk hpk HPK
      have HN0 := Aside0.mk (One.new w3)
      rw [hs0] at HN0
      clear hs0
      have hx2 : wrap64 (16 * (pk : Int)) = 16 * (pk : Int) := by unfold wrap64; omega
      have hx3 : wrap64 ((n : Int) - (pk : Int)) = (n : Int) - (pk : Int) := by unfold wrap64; omega
      have hx4 : wrap64 (16 * ((n : Int) - (pk : Int))) = 16 * ((n : Int) - (pk : Int)) := by unfold wrap64; omega
      go_wp2_with (go_at_call 77; refine (HN0.out.put32 _).mono ?_; rintro e w4 ⟨rfl, hq⟩; have HP := Aside0.mk hq; clear hq HN0)
      obtain ⟨x1, hx1⟩ : ∃ x1, 16 * (pk : Int) = x1 := ⟨_, rfl⟩
      obtain ⟨x3, hx3'⟩ : ∃ x3, 16 * ((n : Int) - (pk : Int)) = x3 := ⟨_, rfl⟩
      have HBS := Aside0.mk (HP.out.alloc (.cells #[.int .i64 (n : Int), .int .i64 x1, .int .i64 (k : Int), .int .i64 x3] 3))
      have hsz4 := HP.out.base_le
      obtain ⟨b4, hb4⟩ : ∃ b4, w4.heap.size = b4 := ⟨_, rfl⟩
      rw [hb4] at HBS
      simp only [hx1, hx3', hb4] at HH ⊢
      clear hx1 hx2 hx3 hx4 hx3' HP h2' hw1 hw2 hp1 hle hlt h2
      go_loopw [46] (fun i wr => ∃ (j : Nat) (s : St), i = .int .i64 (j : Int) ∧ j ≤ 4 ∧ Aside0 (Beside w3 wr w3.heap.size w3.heap.size s b4 (.cells #[.int .i64 (n : Int), .int .i64 x1, .int .i64 (k : Int), .int .i64 x3] 3)) ∧ Aside0 (put4 ([(n : Int), x1, (k : Int), x3].drop j) s = headS n)) (fun i _ => 4 - (RowKit.intOf i).toNat)
      case atStart => exact ⟨0, _, rfl, by omega, HBS, HH⟩
      case round =>
        obtain ⟨j, s, rfl, hj, HP, HQ⟩ := hrel
        clear HBS HH
        obtain ⟨wo, rfl⟩ : ∃ wo : World, wo = wr := ⟨_, rfl⟩
        by_cases hj4 : j < 4
        · obtain ⟨x, hx, HQ'⟩ : ∃ x, wo.cell? ⟨b4, j, none⟩ = some (.int .i64 x) ∧ Aside0 (put4 ([(n : Int), x1, (k : Int), x3].drop (j + 1)) (s16 s x) = headS n) := by
            have hc := HP.out.cell j
            have h := HQ.out
            rcases (show j = 0 ∨ j = 1 ∨ j = 2 ∨ j = 3 by omega) with rfl | rfl | rfl | rfl
            · exact ⟨_, hc, ⟨h⟩⟩
            · exact ⟨_, hc, ⟨h⟩⟩
            · exact ⟨_, hc, ⟨h⟩⟩
            · exact ⟨_, hc, ⟨h⟩⟩
          have hj4' : (j : Int) < 4 := by omega
          have hj0' : (0 : Int) ≤ (j : Int) := by omega
          go_wp2_with (go_at_call 47; refine (HP.out.put16 _).mono ?_; rintro e w' ⟨rfl, hq⟩; have HP1 := Aside0.mk hq; clear hq)
          go_roundw
          case rel => exact ⟨j + 1, _, by go_num, by omega, HP1, HQ'⟩
          case measure => simp [RowKit.intOf]; omega
        · obtain rfl : j = 4 := by omega
          have HS : Aside0 (s = headS n) := ⟨HQ.out⟩
          have HON := Aside0.mk (HS.out ▸ HP.out.one)
          clear HP HQ HS
          have hy1 : wrap64 (16 * (n : Int)) = 16 * (n : Int) := by unfold wrap64; omega
          have hy2 : wrap64 (12 + 16 * (n : Int)) = 12 + 16 * (n : Int) := by unfold wrap64; omega
          go_wp2
          obtain ⟨FIN, hfin⟩ : ∃ FIN, dirS m (12 + 16 * (n : Int)) (headS n) = FIN := ⟨_, rfl⟩
          rw [hfin] at HP0
          have HQ0 : Aside0 (dirS (m.drop 0) (12 + 16 * (n : Int)) (headS n) = FIN) := ⟨hfin⟩
          clear hfin hy1 hy2
          obtain ⟨w5, rfl⟩ : ∃ w5 : World, w5 = wo := ⟨_, rfl⟩
          go_loopw [10, 59] (fun a i wr => ∃ (j : Nat) (at_ : Int) (s : St), i = .int .i64 (j : Int) ∧ a = .int .i64 at_ ∧ j ≤ n ∧ 0 ≤ at_ ∧ at_ ≤ 1000 + 2000000 * (j : Int) ∧ Aside0 (One w3 wr w3.heap.size w3.heap.size s) ∧ Aside0 (dirS (m.drop j) at_ s = FIN)) (fun _ i _ => n - (RowKit.intOf i).toNat)
          case atStart => exact ⟨0, _, _, rfl, rfl, by omega, by omega, by omega, HON, HQ0⟩
          case round =>
            obtain ⟨j, at_, s, rfl, rfl, hj, ha0, ha1, HP, HQ⟩ := hrel
            clear HON HQ0
            obtain ⟨wo, rfl⟩ : ∃ wo : World, wo = wr := ⟨_, rfl⟩
            by_cases hlt : j < n
            · have hp : (0 : Int) ≤ (j : Int) := by omega
              have hq : (j : Int) < (n : Int) := by omega
              obtain ⟨ad', B1, d1, had, hx0, hx1, hlc, hC1⟩ := at_T115 HC3.out (j : Int) hp hq
              obtain rfl : ad = ad' := by injection had
              have hjm : j < m.length := by rw [HML.out]; exact hlt
              have hrd : rd_T115 m (j : Int) = m[j] := by simp [rd_T115, hjm]
              have hmt := HMT.out m[j] (List.getElem_mem hjm)
              have HD := HQ.out
              rw [List.drop_eq_getElem_cons hjm] at HD
              rw [hrd] at hx0 hx1 hlc hC1
              clear hrd
              obtain ⟨tt, htt⟩ : ∃ tt, m[j] = tt := ⟨_, rfl⟩
              rw [htt] at hx0 hx1 hlc hC1 hmt HD
              clear htt hjm had
              obtain ⟨t0, t1⟩ := tt
              simp only at hx0 hx1 hlc hC1 hmt
              simp only [Int.toNat_natCast] at hx0 hx1
              replace hx0 := pw_cell_below HP.out.bel hx0
              replace hx1 := pw_cell_below HP.out.bel hx1
              obtain ⟨ks, hks⟩ := (sum_ev t1 (by omega)).rounds
              have hsr := sumB_range t1
              have HD' : Aside0 (dirS (m.drop (j + 1)) (at_ + fill4 t1.length) (s32 (s32 (s32 (sTag s t0) (sumB t1)) at_) (t1.length : Int)) = FIN) := ⟨HD⟩
              obtain ⟨sm, hsm⟩ : ∃ sm, sumB t1 = sm := ⟨_, rfl⟩
              rw [hsm] at hks hsr HD'
              have HSUM := Aside0.mk (fun (W : World) (hb : Below w3.heap.size w3 W) => sfnt_Sum.calls ks B1 d1 t1 sm W (Kd.C_below hC1 hb) hlc hks)
              have HTS := Aside0.mk (Nat.le_trans hmt.2 (show 140737488351232 ≤ 9223372036854775807 by decide))
              obtain ⟨L, hL⟩ : ∃ L, t1.length = L := ⟨_, rfl⟩
              have hf : fill4 t1.length = ((L : Int) + 3) / 4 * 4 := by rw [hL]; unfold fill4; omega
              rw [hf] at HD'
              rw [hL] at hx1 HSUM hmt HD'
              have hL1 := hmt.1
              have hs0 := hsr.1
              have hs1 := hsr.2
              have hz1 := wz1 hL1
              have hz2 := wz2 hL1
              have hz3 := wz3 hL1
              obtain ⟨hz4, hz5, hz6⟩ := wz4 hL1 ha0 (show at_ ≤ 1000000000 by omega)
              have HAL := Aside0.mk (HP.out.alloc (.cells #[.string t0, .slice B1 L d1] 115))
              clear hlc hC1 hmt HD hks hsm hsr hL hf HP HQ
              go_wp2_with (first
                | (go_at_call 78; refine (HAL.out.putTag t0 HTS.out).mono ?_; rintro e wa ⟨rfl, hq⟩; have hc0 := hq.cell 0; have hc1 := hq.cell 1; simp only [List.getElem?_toArray, List.getElem?_cons_zero, List.getElem?_cons_succ] at hc0 hc1; have HPA := Aside0.mk hq; clear hq HAL hx0 hx1)
                | (go_at_call 34; refine (HSUM.out _ HPA.out.one.bel).mono ?_; rintro e w' ⟨rfl, ⟨nd, rfl⟩⟩)
                | (go_at_call 77; refine (Beside.put32 (by first | exact HPA.out | exact HPA.out.drewN _) _).mono ?_; rintro e wa ⟨rfl, hq⟩; have hc0 := hq.cell 0; have hc1 := hq.cell 1; simp only [List.getElem?_toArray, List.getElem?_cons_zero, List.getElem?_cons_succ] at hc0 hc1; have HPA := Aside0.mk hq; clear hq))
              refine ⟨?_, ?measure⟩
              repeat apply Exists.intro
              refine ⟨?rel, rfl⟩
              case rel => exact ⟨j + 1, _, _, by go_num, rfl, by omega, by omega, by omega, ⟨HPA.out.one⟩, HD'⟩
              case measure => simp [RowKit.intOf]; omega
            · obtain rfl : j = n := by omega
              have hFN : s = FIN := by
                have h := HQ.out
                rw [List.drop_of_length_le (by rw [HML.out]; exact Nat.le_refl _)] at h
                exact h
              rw [hFN] at HP
              clear HQ hFN
              go_wp2
              have HQ1 : Aside0 (bodS (m.drop 0) FIN = packS m) := ⟨HP0.out.symm⟩
              obtain ⟨w6, rfl⟩ : ∃ w6 : World, w6 = wo := ⟨_, rfl⟩
              go_loopw [92] (fun i wr => ∃ (q : Nat) (s : St), i = .int .i64 (q : Int) ∧ q ≤ j ∧ Aside0 (One w3 wr w3.heap.size w3.heap.size s) ∧ Aside0 (bodS (m.drop q) s = packS m)) (fun i _ => j - (RowKit.intOf i).toNat)
              case atStart => exact ⟨0, _, rfl, by omega, HP, HQ1⟩
              case round =>
                obtain ⟨q, s1, rfl, hqj, HP7, HQ7⟩ := hrel
                clear HP HQ1 HP0
                obtain ⟨wo, rfl⟩ : ∃ wo : World, wo = wr := ⟨_, rfl⟩
                by_cases hlt : q < j
                · have hp : (0 : Int) ≤ (q : Int) := by omega
                  have hq : (q : Int) < (j : Int) := by omega
                  obtain ⟨ad', B1, d1, had, hx0, hx1, hlc, hC1⟩ := at_T115 HC3.out (q : Int) hp hq
                  obtain rfl : ad = ad' := by injection had
                  have hjm : q < m.length := by rw [HML.out]; exact hlt
                  have hrd : rd_T115 m (q : Int) = m[q] := by simp [rd_T115, hjm]
                  have hmt := HMT.out m[q] (List.getElem_mem hjm)
                  have HD := HQ7.out
                  rw [List.drop_eq_getElem_cons hjm] at HD
                  rw [hrd] at hx0 hx1 hlc hC1
                  clear hrd
                  obtain ⟨tt, htt⟩ : ∃ tt, m[q] = tt := ⟨_, rfl⟩
                  rw [htt] at hx0 hx1 hlc hC1 hmt HD
                  clear htt hjm had
                  obtain ⟨t0, t1⟩ := tt
                  simp only at hx0 hx1 hlc hC1 hmt
                  simp only [Int.toNat_natCast] at hx0 hx1
                  replace hx0 := pw_cell_below HP7.out.bel hx0
                  replace hx1 := pw_cell_below HP7.out.bel hx1
                  have HD' : Aside0 (bodS (m.drop (q + 1)) (sPad (sBytes s1 t1)) = packS m) := ⟨HD⟩
                  have HC8 := Aside0.mk (fun (W : World) (hb : Below w3.heap.size w3 W) => Kd.C_below hC1 hb)
                  have HL8 : Aside0 (t1.length ≤ 100000000000) := ⟨Nat.le_trans hmt.1 (by decide)⟩
                  have HAL := Aside0.mk (HP7.out.alloc (.cells #[.string t0, .slice B1 t1.length d1] 115))
                  clear hlc hC1 hmt HD HP7 HQ7
                  go_wp2_with (first
                    | (go_at_call 79; refine (HAL.out.putBytes B1 d1 t1 HL8.out (HC8.out _ HAL.out.one.bel)).mono ?_; rintro e wa ⟨rfl, hq⟩; have HPA := Aside0.mk hq; clear hq HAL hx0 hx1)
                    | (go_at_call 80; refine HPA.out.pad.mono ?_; rintro e wb ⟨rfl, hq⟩; have HPB := Aside0.mk hq; clear hq HPA))
                  refine ⟨?_, ?measure⟩
                  repeat apply Exists.intro
                  refine ⟨?rel, rfl⟩
                  case rel => exact ⟨q + 1, _, by go_num, by omega, ⟨HPB.out.one⟩, HD'⟩
                  case measure => simp [RowKit.intOf]; omega
                · obtain rfl : q = j := by omega
                  have hFN : s1 = packS m := by
                    have h := HQ7.out
                    rw [List.drop_of_length_le (by rw [HML.out]; exact Nat.le_refl _)] at h
                    exact h
                  rw [hFN] at HP7
                  clear HQ7 hFN
                  have HBW := Aside0.mk (below_then HB3.out HB3.out.size HP7.out.bel)
                  go_wp2_with (go_at_call 48; refine HP7.out.all.mono ?_; rintro e w7 ⟨v, rfl, hR, hB⟩; have HR7 := Aside0.mk (Kd.R_lower hR HBW.out.size); have HB7 := Aside0.mk (below_then HBW.out HBW.out.size hB); clear hR hB)
                  go_ret2
                  exact ⟨_, rfl, HR7.out, HB7.out⟩

theorem sfnt_Pack.calls (A0 : Option Addr) (c0 : Nat) (l0 : List S115) (r1 : List Int) (r2 : Int) (w : World) (hr0 : Kd.C k115 w A0 l0.length l0) (hc0 : l0.length ≤ c0) (h : sfnt_Pack.f l0 = some (r1, r2)) :
    Calls Try.prog 36 #[.slice A0 l0.length c0] w fun e w' => ∃ v0_ : Value, e = .returned (.tuple #[v0_, .int .i64 r2]) ∧ Kd.R (Kd.int .u8) 5 w' w.heap.size (fun _ => True) v0_ r1 ∧ Below w.heap.size w w' := by
  unfold sfnt_Pack.f at h
  split at h
  · rename_i hf
    split at h
    · rename_i hm
      obtain ⟨rfl, rfl⟩ := Prod.mk.inj (Option.some.inj h)
      exact Pack_ok A0 c0 l0 w hr0 hc0 hf hm
    · rename_i hm
      obtain ⟨rfl, rfl⟩ := Prod.mk.inj (Option.some.inj h)
      have HFM := Aside0.mk (sfnt_Formed.calls A0 c0 l0 false w hr0 hc0 (by unfold sfnt_Formed.f; rw [if_pos hf]; simpa using hm))
      clear hr0 hc0 h hf hm
      go_enter Try.func36, Try.ntmps36
      go_wp2_with (go_at_call 42; refine HFM.out.mono ?_; rintro e w1 ⟨rfl, hb⟩; have HB1 := Aside0.mk hb; clear hb HFM)
      go_ret2
      exact ⟨_, rfl, Kd.R_nil _ _ _ _ _, HB1.out⟩
  · cases h
end Go.Proofs.Ytmppdgjnibamlab.Pag
