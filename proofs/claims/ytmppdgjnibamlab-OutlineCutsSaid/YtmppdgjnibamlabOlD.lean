/- outline.differences: the contract, with the page at hand. No condition but its own premises. -/
import Derived.Test.YtmppdgjnibamlabOlH
namespace Go.Proofs.Ytmppdgjnibamlab.Pag
open Go.RowKit Go.Proofs.Ytmppdgjnibamlab.POl Go.Proofs.YtmppdgjnibamlabW.PrintWords
set_option linter.unusedVariables false
set_option linter.unusedSimpArgs false

/-- A difference's bytes. -/
def dif (d : Int) : List Int := if d = 0 then [] else if 0 < d ∧ d ≤ 255 then be d 1 else if d < 0 ∧ -255 ≤ d then be (-d) 1 else be d 2
theorem dif_len (d : Int) : (dif d).length ≤ 2 := by
  unfold dif
  split
  · simp
  · split
    · simp [be]
    · split <;> simp [be]
theorem row_cell {W : World} {base c g : Nat} {xs : List Int} (h : W.ownsRow base 3 1 (.slice (some ⟨g, 0, none⟩) xs.length c) xs.length (nums .i64 xs)) (j : Nat) (hj : j < xs.length) :
    W.cell? ⟨g, j, none⟩ = some (.int .i64 xs[j]) := by
  have := (own_at h (j : Int) (by omega) (by omega)).1
  rw [show rd xs (j : Int) = xs[j] by simp [rd, hj]] at this
  simpa using this
theorem row_form {W : World} {base n : Nat} {A : Option Addr} {c : Nat} {xs : List Value} (h : W.ownsRow base 3 1 (.slice A n c) n xs) (hn : 0 < n) : ∃ gm, A = some ⟨gm, 0, none⟩ := by
  obtain ⟨g, cap, he, _, _⟩ := h.form hn
  injection he with h1 h2 h3
  exact ⟨g, h1⟩

set_option maxHeartbeats 2000000 in
set_option maxRecDepth 100000 in
theorem diff_x {w0 w : World} {base g : Nat} {X : List Int} {rows : List (Value × List Int)} {blks : List (Nat × Obj)} (hH : Hp w0 w base g X rows blks)
    (Af Al : Option Addr) (cf cl : Nat) (fl ds : List Int) (hfr : (Value.slice Af fl.length cf, fl) ∈ rows) (hdr : (Value.slice Al ds.length cl, ds) ∈ rows) (hlen : fl.length = ds.length) (hn : ds.length ≤ 1000)
    (hfl : ∀ j (h1 : j < fl.length) (h2 : j < ds.length), Go.bits .and .i64 fl[j] 18 = flg ds[j] 2 16) (hds : ∀ d ∈ ds, -32768 ≤ d ∧ d ≤ 32767) (hX : X.length ≤ 10000) :
    Calls Try.prog 53 #[.pointer (some ⟨g, 0, none⟩), .slice Af fl.length cf, .slice Al ds.length cl, .int .i64 2, .int .i64 16] w fun e w' => e = .returned (.tuple #[]) ∧ Hp w0 w' base g (X ++ ds.flatMap dif) rows blks := by
  have HF := Aside0.mk (fun (W : World) (X1 : List Int) (h : Hp w0 W base g X1 rows blks) => h.row hfr)
  have HD := Aside0.mk (fun (W : World) (X1 : List Int) (h : Hp w0 W base g X1 rows blks) => h.row hdr)
  have HFL := Aside0.mk hfl
  have HDS := Aside0.mk hds
  obtain ⟨n, hnn⟩ : ∃ n, ds.length = n := ⟨_, rfl⟩
  have HN := Aside0.mk hnn
  have HN2 := Aside0.mk (hlen.trans hnn)
  rw [hlen, hnn]
  rw [hnn] at hn
  have HX := Aside0.mk hX
  have HH := Aside0.mk hH
  clear hfl hds hfr hdr hnn hlen hX hH
  obtain ⟨F, hF⟩ : ∃ F, X ++ ds.flatMap dif = F := ⟨_, rfl⟩
  rw [hF]
  have HQ0 : Aside0 (X ++ (ds.drop 0).flatMap dif = F) := ⟨hF⟩
  clear hF
  go_enter Try.func53, Try.ntmps53
  go_wp2
  go_loopw [14] (fun i wr => ∃ (j : Nat) (Y : List Int), i = .int .i64 (j : Int) ∧ j ≤ n ∧ Aside0 (Hp w0 wr base g Y rows blks) ∧ Aside0 (Y ++ (ds.drop j).flatMap dif = F) ∧ Aside0 (Y.length ≤ X.length + 2 * j)) (fun i _ => n - (RowKit.intOf i).toNat)
  case atStart => exact ⟨0, X, rfl, by omega, HH, HQ0, ⟨by omega⟩⟩
  case round =>
    obtain ⟨j, Y, rfl, hj, HP, HQ, HL⟩ := hrel
    clear HH HQ0
    obtain ⟨wo, rfl⟩ : ∃ wo : World, wo = wr := ⟨_, rfl⟩
    by_cases hlt : j < n
    · have hp : (0 : Int) ≤ (j : Int) := by omega
      have hq : (j : Int) < (n : Int) := by omega
      have hjd : j < ds.length := by rw [HN.out]; exact hlt
      have hjf : j < fl.length := by rw [HN2.out]; exact hlt
      have hf := HF.out wo Y HP.out
      have hd := HD.out wo Y HP.out
      rw [HN.out] at hd
      rw [HN2.out] at hf
      obtain ⟨gf, rfl⟩ := row_form hf (by omega)
      obtain ⟨gd, rfl⟩ := row_form hd (by omega)
      have hcf := row_cell (xs := fl) (c := cf) (by rw [HN2.out]; exact hf) j hjf
      have hcd := row_cell (xs := ds) (c := cl) (by rw [HN.out]; exact hd) j hjd
      have hb := HFL.out j hjf hjd
      have hr := HDS.out ds[j] (List.getElem_mem hjd)
      have hQ := HQ.out
      rw [List.drop_eq_getElem_cons hjd, List.flatMap_cons] at hQ
      obtain ⟨f, hfe⟩ : ∃ f, fl[j] = f := ⟨_, rfl⟩
      obtain ⟨d, hde⟩ : ∃ d, ds[j] = d := ⟨_, rfl⟩
      rw [hfe] at hcf hb
      rw [hde] at hcd hb hr hQ
      clear hfe hde hf hd
      have HQ' := Aside0.mk hQ
      obtain ⟨hr0, hr1⟩ := hr
      have hX := HX.out
      have hL := HL.out
      have HYL : Aside0 (Y.length ≤ 1000000) := ⟨by omega⟩
      have HNX : Aside0 (∀ Z : List Int, Z.length ≤ 2 → (Y ++ Z).length ≤ X.length + 2 * (j + 1)) := ⟨fun Z hZ => by rw [List.length_append]; omega⟩
      clear hQ hX hL HQ HX HL hjd hjf
      by_cases h0 : d = 0
      · have hdf : dif d = [] := by unfold dif; rw [if_pos h0]
        rw [h0] at hb
        have hbv : Go.bits .and .i64 f 18 = 16 := hb
        have HQ2 : Aside0 (Y ++ (ds.drop (j + 1)).flatMap dif = F) := ⟨by have := HQ'.out; rwa [hdf, List.nil_append] at this⟩
        clear hb hdf HQ'
        have hc1 : (Go.bits .and .i64 f (Go.bits .or .i64 2 16) == 2) = false := by rw [show Go.bits .or .i64 2 16 = 18 by decide, hbv]; decide
        have hc2 : (Go.bits .and .i64 f (Go.bits .or .i64 2 16) == Go.bits .or .i64 2 16) = false := by rw [show Go.bits .or .i64 2 16 = 18 by decide, hbv]; decide
        have hc3 : (Go.bits .and .i64 f (Go.bits .or .i64 2 16) == 0) = false := by rw [show Go.bits .or .i64 2 16 = 18 by decide, hbv]; decide
        clear hbv
        go_wp2
        go_roundw
        case rel => exact ⟨j + 1, Y, by go_num, by omega, HP, HQ2, ⟨by have := HNX.out [] (by simp); rwa [List.append_nil] at this⟩⟩
        case measure => simp [RowKit.intOf]; omega
      · have HQ3 : Aside0 (Y ++ dif d ++ (ds.drop (j + 1)).flatMap dif = F) := ⟨by have := HQ'.out; rwa [← List.append_assoc] at this⟩
        have HLN : Aside0 ((Y ++ dif d).length ≤ X.length + 2 * (j + 1)) := ⟨HNX.out _ (dif_len d)⟩
        clear HQ' HNX
        by_cases h1 : 0 < d ∧ d ≤ 255
        · obtain ⟨h1a, h1b⟩ := h1
          have hbv : Go.bits .and .i64 f 18 = 18 := by rw [hb]; unfold flg; rw [if_neg h0, if_pos ⟨h1a, h1b⟩]; rfl
          have hdf : dif d = be d 1 := by unfold dif; rw [if_neg h0, if_pos ⟨h1a, h1b⟩]
          have HPU := Aside0.mk (HP.out.put8 d HYL.out (by omega) h1b)
          rw [← hdf] at HPU
          clear hb hdf
          have hc1 : (Go.bits .and .i64 f (Go.bits .or .i64 2 16) == 2) = false := by rw [show Go.bits .or .i64 2 16 = 18 by decide, hbv]; decide
          have hc2 : (Go.bits .and .i64 f (Go.bits .or .i64 2 16) == Go.bits .or .i64 2 16) = true := by rw [show Go.bits .or .i64 2 16 = 18 by decide, hbv]; decide
          have hc3 : (Go.bits .and .i64 f (Go.bits .or .i64 2 16) == 0) = false := by rw [show Go.bits .or .i64 2 16 = 18 by decide, hbv]; decide
          clear hbv
          have hmx : max d (-d) = d := by omega
          go_wp2_with (go_at_call 52; refine HPU.out.mono ?_; rintro e w1 ⟨rfl, hq⟩; have HP1 := Aside0.mk hq; clear hq HPU)
          go_roundw
          case rel => exact ⟨j + 1, _, by go_num, by omega, HP1, HQ3, HLN⟩
          case measure => simp [RowKit.intOf]; omega
        · by_cases h2 : d < 0 ∧ -255 ≤ d
          · obtain ⟨h2a, h2b⟩ := h2
            have hbv : Go.bits .and .i64 f 18 = 2 := by rw [hb]; unfold flg; rw [if_neg h0, if_neg (by omega), if_pos ⟨h2a, h2b⟩]
            have hdf : dif d = be (-d) 1 := by unfold dif; rw [if_neg h0, if_neg (by omega), if_pos ⟨h2a, h2b⟩]
            have HPU := Aside0.mk (HP.out.put8 (-d) HYL.out (by omega) (by omega))
            rw [← hdf] at HPU
            clear hb hdf
            have hc1 : (Go.bits .and .i64 f (Go.bits .or .i64 2 16) == 2) = true := by rw [show Go.bits .or .i64 2 16 = 18 by decide, hbv]; decide
            have hc2 : (Go.bits .and .i64 f (Go.bits .or .i64 2 16) == Go.bits .or .i64 2 16) = false := by rw [show Go.bits .or .i64 2 16 = 18 by decide, hbv]; decide
            have hc3 : (Go.bits .and .i64 f (Go.bits .or .i64 2 16) == 0) = false := by rw [show Go.bits .or .i64 2 16 = 18 by decide, hbv]; decide
            clear hbv
            have hmx : max d (-d) = -d := by omega
            go_wp2_with (go_at_call 52; refine HPU.out.mono ?_; rintro e w1 ⟨rfl, hq⟩; have HP1 := Aside0.mk hq; clear hq HPU)
            go_roundw
            case rel => exact ⟨j + 1, _, by go_num, by omega, HP1, HQ3, HLN⟩
            case measure => simp [RowKit.intOf]; omega
          · have hbv : Go.bits .and .i64 f 18 = 0 := by rw [hb]; unfold flg; rw [if_neg h0, if_neg h1, if_neg h2]
            have hdf : dif d = be d 2 := by unfold dif; rw [if_neg h0, if_neg h1, if_neg h2]
            have HPU := Aside0.mk (HP.out.put16 d HYL.out hr0 (by omega))
            rw [← hdf] at HPU
            clear hb hdf h1 h2
            have hc1 : (Go.bits .and .i64 f (Go.bits .or .i64 2 16) == 2) = false := by rw [show Go.bits .or .i64 2 16 = 18 by decide, hbv]; decide
            have hc2 : (Go.bits .and .i64 f (Go.bits .or .i64 2 16) == Go.bits .or .i64 2 16) = false := by rw [show Go.bits .or .i64 2 16 = 18 by decide, hbv]; decide
            have hc3 : (Go.bits .and .i64 f (Go.bits .or .i64 2 16) == 0) = true := by rw [show Go.bits .or .i64 2 16 = 18 by decide, hbv]; decide
            clear hbv
            go_wp2_with (go_at_call 47; refine HPU.out.mono ?_; rintro e w1 ⟨rfl, hq⟩; have HP1 := Aside0.mk hq; clear hq HPU)
            go_roundw
            case rel => exact ⟨j + 1, _, by go_num, by omega, HP1, HQ3, HLN⟩
            case measure => simp [RowKit.intOf]; omega
    · obtain rfl : j = n := by omega
      have hFN : Y = F := by
        have h := HQ.out
        rw [List.drop_of_length_le (by rw [HN.out]; exact Nat.le_refl _), List.flatMap_nil, List.append_nil] at h
        exact h
      rw [hFN] at HP
      clear HQ hFN
      go_wp2
      go_end0
      exact ⟨rfl, HP.out⟩

set_option maxHeartbeats 2000000 in
set_option maxRecDepth 100000 in
theorem diff_y {w0 w : World} {base g : Nat} {X : List Int} {rows : List (Value × List Int)} {blks : List (Nat × Obj)} (hH : Hp w0 w base g X rows blks)
    (Af Al : Option Addr) (cf cl : Nat) (fl ds : List Int) (hfr : (Value.slice Af fl.length cf, fl) ∈ rows) (hdr : (Value.slice Al ds.length cl, ds) ∈ rows) (hlen : fl.length = ds.length) (hn : ds.length ≤ 1000)
    (hfl : ∀ j (h1 : j < fl.length) (h2 : j < ds.length), Go.bits .and .i64 fl[j] 36 = flg ds[j] 4 32) (hds : ∀ d ∈ ds, -32768 ≤ d ∧ d ≤ 32767) (hX : X.length ≤ 10000) :
    Calls Try.prog 53 #[.pointer (some ⟨g, 0, none⟩), .slice Af fl.length cf, .slice Al ds.length cl, .int .i64 4, .int .i64 32] w fun e w' => e = .returned (.tuple #[]) ∧ Hp w0 w' base g (X ++ ds.flatMap dif) rows blks := by
  have HF := Aside0.mk (fun (W : World) (X1 : List Int) (h : Hp w0 W base g X1 rows blks) => h.row hfr)
  have HD := Aside0.mk (fun (W : World) (X1 : List Int) (h : Hp w0 W base g X1 rows blks) => h.row hdr)
  have HFL := Aside0.mk hfl
  have HDS := Aside0.mk hds
  obtain ⟨n, hnn⟩ : ∃ n, ds.length = n := ⟨_, rfl⟩
  have HN := Aside0.mk hnn
  have HN2 := Aside0.mk (hlen.trans hnn)
  rw [hlen, hnn]
  rw [hnn] at hn
  have HX := Aside0.mk hX
  have HH := Aside0.mk hH
  clear hfl hds hfr hdr hnn hlen hX hH
  obtain ⟨F, hF⟩ : ∃ F, X ++ ds.flatMap dif = F := ⟨_, rfl⟩
  rw [hF]
  have HQ0 : Aside0 (X ++ (ds.drop 0).flatMap dif = F) := ⟨hF⟩
  clear hF
  go_enter Try.func53, Try.ntmps53
  go_wp2
  go_loopw [14] (fun i wr => ∃ (j : Nat) (Y : List Int), i = .int .i64 (j : Int) ∧ j ≤ n ∧ Aside0 (Hp w0 wr base g Y rows blks) ∧ Aside0 (Y ++ (ds.drop j).flatMap dif = F) ∧ Aside0 (Y.length ≤ X.length + 2 * j)) (fun i _ => n - (RowKit.intOf i).toNat)
  case atStart => exact ⟨0, X, rfl, by omega, HH, HQ0, ⟨by omega⟩⟩
  case round =>
    obtain ⟨j, Y, rfl, hj, HP, HQ, HL⟩ := hrel
    clear HH HQ0
    obtain ⟨wo, rfl⟩ : ∃ wo : World, wo = wr := ⟨_, rfl⟩
    by_cases hlt : j < n
    · have hp : (0 : Int) ≤ (j : Int) := by omega
      have hq : (j : Int) < (n : Int) := by omega
      have hjd : j < ds.length := by rw [HN.out]; exact hlt
      have hjf : j < fl.length := by rw [HN2.out]; exact hlt
      have hf := HF.out wo Y HP.out
      have hd := HD.out wo Y HP.out
      rw [HN.out] at hd
      rw [HN2.out] at hf
      obtain ⟨gf, rfl⟩ := row_form hf (by omega)
      obtain ⟨gd, rfl⟩ := row_form hd (by omega)
      have hcf := row_cell (xs := fl) (c := cf) (by rw [HN2.out]; exact hf) j hjf
      have hcd := row_cell (xs := ds) (c := cl) (by rw [HN.out]; exact hd) j hjd
      have hb := HFL.out j hjf hjd
      have hr := HDS.out ds[j] (List.getElem_mem hjd)
      have hQ := HQ.out
      rw [List.drop_eq_getElem_cons hjd, List.flatMap_cons] at hQ
      obtain ⟨f, hfe⟩ : ∃ f, fl[j] = f := ⟨_, rfl⟩
      obtain ⟨d, hde⟩ : ∃ d, ds[j] = d := ⟨_, rfl⟩
      rw [hfe] at hcf hb
      rw [hde] at hcd hb hr hQ
      clear hfe hde hf hd
      have HQ' := Aside0.mk hQ
      obtain ⟨hr0, hr1⟩ := hr
      have hX := HX.out
      have hL := HL.out
      have HYL : Aside0 (Y.length ≤ 1000000) := ⟨by omega⟩
      have HNX : Aside0 (∀ Z : List Int, Z.length ≤ 2 → (Y ++ Z).length ≤ X.length + 2 * (j + 1)) := ⟨fun Z hZ => by rw [List.length_append]; omega⟩
      clear hQ hX hL HQ HX HL hjd hjf
      by_cases h0 : d = 0
      · have hdf : dif d = [] := by unfold dif; rw [if_pos h0]
        rw [h0] at hb
        have hbv : Go.bits .and .i64 f 36 = 32 := hb
        have HQ2 : Aside0 (Y ++ (ds.drop (j + 1)).flatMap dif = F) := ⟨by have := HQ'.out; rwa [hdf, List.nil_append] at this⟩
        clear hb hdf HQ'
        have hc1 : (Go.bits .and .i64 f (Go.bits .or .i64 4 32) == 4) = false := by rw [show Go.bits .or .i64 4 32 = 36 by decide, hbv]; decide
        have hc2 : (Go.bits .and .i64 f (Go.bits .or .i64 4 32) == Go.bits .or .i64 4 32) = false := by rw [show Go.bits .or .i64 4 32 = 36 by decide, hbv]; decide
        have hc3 : (Go.bits .and .i64 f (Go.bits .or .i64 4 32) == 0) = false := by rw [show Go.bits .or .i64 4 32 = 36 by decide, hbv]; decide
        clear hbv
        go_wp2
        go_roundw
        case rel => exact ⟨j + 1, Y, by go_num, by omega, HP, HQ2, ⟨by have := HNX.out [] (by simp); rwa [List.append_nil] at this⟩⟩
        case measure => simp [RowKit.intOf]; omega
      · have HQ3 : Aside0 (Y ++ dif d ++ (ds.drop (j + 1)).flatMap dif = F) := ⟨by have := HQ'.out; rwa [← List.append_assoc] at this⟩
        have HLN : Aside0 ((Y ++ dif d).length ≤ X.length + 2 * (j + 1)) := ⟨HNX.out _ (dif_len d)⟩
        clear HQ' HNX
        by_cases h1 : 0 < d ∧ d ≤ 255
        · obtain ⟨h1a, h1b⟩ := h1
          have hbv : Go.bits .and .i64 f 36 = 36 := by rw [hb]; unfold flg; rw [if_neg h0, if_pos ⟨h1a, h1b⟩]; rfl
          have hdf : dif d = be d 1 := by unfold dif; rw [if_neg h0, if_pos ⟨h1a, h1b⟩]
          have HPU := Aside0.mk (HP.out.put8 d HYL.out (by omega) h1b)
          rw [← hdf] at HPU
          clear hb hdf
          have hc1 : (Go.bits .and .i64 f (Go.bits .or .i64 4 32) == 4) = false := by rw [show Go.bits .or .i64 4 32 = 36 by decide, hbv]; decide
          have hc2 : (Go.bits .and .i64 f (Go.bits .or .i64 4 32) == Go.bits .or .i64 4 32) = true := by rw [show Go.bits .or .i64 4 32 = 36 by decide, hbv]; decide
          have hc3 : (Go.bits .and .i64 f (Go.bits .or .i64 4 32) == 0) = false := by rw [show Go.bits .or .i64 4 32 = 36 by decide, hbv]; decide
          clear hbv
          have hmx : max d (-d) = d := by omega
          go_wp2_with (go_at_call 52; refine HPU.out.mono ?_; rintro e w1 ⟨rfl, hq⟩; have HP1 := Aside0.mk hq; clear hq HPU)
          go_roundw
          case rel => exact ⟨j + 1, _, by go_num, by omega, HP1, HQ3, HLN⟩
          case measure => simp [RowKit.intOf]; omega
        · by_cases h2 : d < 0 ∧ -255 ≤ d
          · obtain ⟨h2a, h2b⟩ := h2
            have hbv : Go.bits .and .i64 f 36 = 4 := by rw [hb]; unfold flg; rw [if_neg h0, if_neg (by omega), if_pos ⟨h2a, h2b⟩]
            have hdf : dif d = be (-d) 1 := by unfold dif; rw [if_neg h0, if_neg (by omega), if_pos ⟨h2a, h2b⟩]
            have HPU := Aside0.mk (HP.out.put8 (-d) HYL.out (by omega) (by omega))
            rw [← hdf] at HPU
            clear hb hdf
            have hc1 : (Go.bits .and .i64 f (Go.bits .or .i64 4 32) == 4) = true := by rw [show Go.bits .or .i64 4 32 = 36 by decide, hbv]; decide
            have hc2 : (Go.bits .and .i64 f (Go.bits .or .i64 4 32) == Go.bits .or .i64 4 32) = false := by rw [show Go.bits .or .i64 4 32 = 36 by decide, hbv]; decide
            have hc3 : (Go.bits .and .i64 f (Go.bits .or .i64 4 32) == 0) = false := by rw [show Go.bits .or .i64 4 32 = 36 by decide, hbv]; decide
            clear hbv
            have hmx : max d (-d) = -d := by omega
            go_wp2_with (go_at_call 52; refine HPU.out.mono ?_; rintro e w1 ⟨rfl, hq⟩; have HP1 := Aside0.mk hq; clear hq HPU)
            go_roundw
            case rel => exact ⟨j + 1, _, by go_num, by omega, HP1, HQ3, HLN⟩
            case measure => simp [RowKit.intOf]; omega
          · have hbv : Go.bits .and .i64 f 36 = 0 := by rw [hb]; unfold flg; rw [if_neg h0, if_neg h1, if_neg h2]
            have hdf : dif d = be d 2 := by unfold dif; rw [if_neg h0, if_neg h1, if_neg h2]
            have HPU := Aside0.mk (HP.out.put16 d HYL.out hr0 (by omega))
            rw [← hdf] at HPU
            clear hb hdf h1 h2
            have hc1 : (Go.bits .and .i64 f (Go.bits .or .i64 4 32) == 4) = false := by rw [show Go.bits .or .i64 4 32 = 36 by decide, hbv]; decide
            have hc2 : (Go.bits .and .i64 f (Go.bits .or .i64 4 32) == Go.bits .or .i64 4 32) = false := by rw [show Go.bits .or .i64 4 32 = 36 by decide, hbv]; decide
            have hc3 : (Go.bits .and .i64 f (Go.bits .or .i64 4 32) == 0) = true := by rw [show Go.bits .or .i64 4 32 = 36 by decide, hbv]; decide
            clear hbv
            go_wp2_with (go_at_call 47; refine HPU.out.mono ?_; rintro e w1 ⟨rfl, hq⟩; have HP1 := Aside0.mk hq; clear hq HPU)
            go_roundw
            case rel => exact ⟨j + 1, _, by go_num, by omega, HP1, HQ3, HLN⟩
            case measure => simp [RowKit.intOf]; omega
    · obtain rfl : j = n := by omega
      have hFN : Y = F := by
        have h := HQ.out
        rw [List.drop_of_length_le (by rw [HN.out]; exact Nat.le_refl _), List.flatMap_nil, List.append_nil] at h
        exact h
      rw [hFN] at HP
      clear HQ hFN
      go_wp2
      go_end0
      exact ⟨rfl, HP.out⟩
end Go.Proofs.Ytmppdgjnibamlab.Pag
