/- OctetsBack: plain. -/
import Derived.Test.YtmppdgjnibamlaaO4P
namespace Go.Proofs.Ytmppdgjnibamlaa.Pag
open Go.RowKit Go.Proofs.YtmppdgjnibamlaaW.PrintWords
set_option linter.unusedVariables false
set_option linter.unusedSimpArgs false

theorem elem_at {k : IntKind} {w : World} {A : Option Addr} {l : List Int} (h : Kd.C (Kd.int k) w A l.length l) (j : Nat) (hj : j < l.length) : True ∧ ∀ ad, A = some ad → w.cell? (ad.add j) = some (.int k (rd l (j : Int))) := by
  obtain ⟨ad, e, hc⟩ := (C_reads h).at_ (j : Int) (by omega) (by omega)
  exact ⟨trivial, fun a ha => by rw [e] at ha; injection ha with ha; subst ha; simpa using hc⟩
set_option maxHeartbeats 2000000 in
set_option maxRecDepth 4000000 in
theorem back_walk (A0 : Option Addr) (c0 : Nat) (l0 : List Int) (s : ByteArray) (w : World) (hr0 : Kd.C (Kd.int .i32) w A0 l0.length l0) (hc0 : l0.length ≤ c0) (hw : ∀ x ∈ l0, -2147483648 ≤ x ∧ x ≤ 2147483647) (hs : s.size ≤ 140737488351232) :
    Calls Try.prog 3 #[.slice A0 l0.length c0, .string s] w fun e w' => e = .returned (.bool true) ∧ Below w.heap.size w w' := by
  have HR0 := Aside0.mk hr0
  clear hr0
  by_cases hlen : 200 < l0.length
  · go_enter Try.func3, Try.ntmps3
    have HB := Aside0.mk (Below.refl w.heap.size w)
    go_wp2_with (go_at_call 15; refine (awake4_calls _).mono ?_; rintro e w1 ⟨rfl, hB⟩; have HB1 := Aside0.mk (below_then HB.out HB.out.size hB); clear hB HB; have HB := HB1; clear HB1)
    go_ret
    exact ⟨rfl, HB.out⟩
  · go_enter Try.func3, Try.ntmps3
    go_wp2_with (go_at_call 15; refine (awake4_calls _).mono ?_; rintro e w1 ⟨rfl, hB⟩; have HB := Aside0.mk hB; clear hB)
    have HT := Aside0.mk (Two.start (Pg.new w1 w.heap.size HB.out.size) (HB.out.alloc HB.out.size (.cells #[.slice none 0 0, .slice none 0 0, .bool false] 28)))
    have HR1 := Aside0.mk (Kd.C_alloc (Kd.C_below HR0.out HB.out) (.cells #[.slice none 0 0, .slice none 0 0, .bool false] 28))
    go_loopw [6, 7] (fun v i wr => ∃ j : Nat, i = .int .i64 (j : Int) ∧ Aside0 (j ≤ l0.length) ∧ Aside0 (Two w wr w.heap.size w1.heap.size (back l0 j) [] false v (placesOf j))) (fun _ i _ => l0.length - (intOf i).toNat)
    case atStart => exact ⟨0, rfl, ⟨by omega⟩, HT⟩
    case round =>
      obtain ⟨j, rfl, HJ, HT⟩ := hrel
      have hj := HJ.out
      by_cases hlt : j < l0.length
      · have HR := Aside0.mk (Kd.C_below HR0.out HT.out.bel)
        obtain ⟨ad, had, hcell⟩ := (C_reads HR.out).at_ (j : Int) (by omega) (by omega)
        subst had
        have HCA := Aside0.mk (fun (w' : World) (hb : Below w.heap.size w w') => (elem_at (Kd.C_below HR0.out hb) j hlt).2 _ rfl)
        have HL := Aside0.mk (show ((back l0 j).length : Int) = 7 * (j : Int) by rw [back_length l0 j hj]; simp)
        have HX := Aside0.mk (hw (rd l0 (j : Int)) (rd_mem hlt))
        obtain ⟨hx0, hx1⟩ := HX.out
        have hcell := HCA.out _ HT.out.bel
        clear hj
        go_wp2_with (first
          | (go_at_call 16; obtain ⟨ok, hPg⟩ := HT.out.pg; refine (here_calls hPg).mono ?_; rintro e w' ⟨rfl, rfl⟩; rw [HL.out]; clear hPg ok)
          | (at_builtin; refine print_append_num (w0 := w) w.heap.size rfl (.tmp 36) (.tmp 39) 26 3 .i64 8 rfl Try.underlying26 infoI (by decide) _ (placesOf j) (7 * (j : Int)) rfl rfl HT.out.own HT.out.bel HT.out.base_le (by rw [places_length]; omega) ?_; intro v1 wA hown hB hgrow hat; have HT2 := Aside0.mk (HT.out.app hown hB hgrow hat); have hcell2 := HCA.out _ HT2.out.bel; clear hown hB hgrow hat HT)
          | (go_at_call 17; refine (HT2.out.call (fun ok h => Put32_calls h _)).mono ?_; rintro e w3 ⟨rfl, hT⟩; have HT3 := Aside0.mk hT; have hcell3 := HCA.out _ hT.bel; clear hT HT2 hcell2)
          | (go_at_call 18; refine (HT3.out.call (fun ok h => Put16_calls h _)).mono ?_; rintro e w4 ⟨rfl, hT⟩; have HT4 := Aside0.mk hT; have hcell4 := HCA.out _ hT.bel; clear hT HT3 hcell3)
          | (go_at_call 19; refine (HT4.out.call (fun ok h => Put8_calls h _)).mono ?_; rintro e w5 ⟨rfl, hT⟩; have HT5 := Aside0.mk hT; clear hT HT4 hcell4))
        go_roundw
        case rel =>
          refine ⟨j + 1, by go_num, ⟨by omega⟩, ⟨?_⟩⟩
          have h5 := HT5.out
          have e := round_puts (back l0 j) (rd l0 (j : Int)) (by rw [back_length l0 j HJ.out]; omega) hx0 hx1
          unfold i16s at e
          rw [e.1, e.2, ← back_succ l0 j hlt, ← places_succ] at h5
          exact h5
        case measure => simp [intOf]; omega
      · obtain rfl : j = l0.length := by omega
        obtain ⟨Av, cv, hv, hle, hCv⟩ := Kd.R_reads (own_R HT.out.own (ok := fun _ => True) (fun _ _ => trivial))
        subst hv
        obtain ⟨t0, ht0⟩ : ∃ t0, (if good s = true then bytesOf s else []) = t0 := ⟨_, rfl⟩
        obtain ⟨Bf, hBf⟩ : ∃ Bf, back l0 l0.length ++ t0 = Bf := ⟨_, rfl⟩
        have hb0 : t0.all byteB = true := by rw [← ht0]; split; exact bytesOf_bytes s; rfl
        have hl0 : t0.length ≤ 4 := by
          rw [← ht0]
          split
          · rename_i hg
            have : s.size = 4 := by simp [good] at hg; exact hg.2
            rw [bytesOf_length]; omega
          · simp
        have HBL := Aside0.mk (back_length l0 l0.length (Nat.le_refl _))
        have HL := Aside0.mk (show ((back l0 l0.length).length : Int) = 7 * (l0.length : Int) by rw [HBL.out]; simp)
        have HG := Aside0.mk (fun W => Good_calls s W (by omega))
        have HFL := Aside0.mk (show Bf.length ≤ 1048576 by rw [← hBf, List.length_append, HBL.out]; omega)
        have HI4 := Aside0.mk (fun (j : Nat) (hj : j < l0.length) => hBf ▸ back_I32 l0 t0 j hj hb0 (hw _ (rd_mem hj)).1 (hw _ (rd_mem hj)).2)
        have HI2 := Aside0.mk (fun (j : Nat) (hj : j < l0.length) => (hBf ▸ back_I16 l0 t0 j hj hb0 : octets_I16.f Bf (7 * (j : Int) + 4) = some (wrap64 (IntKind.i16.wrap (rd l0 (j : Int))), true)))
        have HI1 := Aside0.mk (fun (j : Nat) (hj : j < l0.length) => hBf ▸ back_U8 l0 t0 j hj hb0)
        clear hle hCv hj hb0 hl0
        by_cases hg : good s = true
        · have HE := Aside0.mk (show tagB false (back l0 l0.length) s = Bf ∧ tagF false (back l0 l0.length) s = false by
            rw [← hBf, ← ht0, if_pos hg]
            have := over_small (B := back l0 l0.length) (by rw [HBL.out]; omega)
            simp [tagB, tagF, this, hg])
          have HTG := Aside0.mk (show octets_Tag.f Bf (7 * (l0.length : Int)) = some (s, true) by
            rw [← hBf, ← ht0, if_pos hg, ← HL.out]; exact tag_yes _ s (by rw [HBL.out]; omega) hg)
          clear hBf ht0
          go_wp2_with (first
            | (go_at_call 16; obtain ⟨ok, hPg⟩ := HT.out.pg; refine (here_calls hPg).mono ?_; rintro e w' ⟨rfl, rfl⟩; rw [HL.out]; clear hPg ok)
            | (go_at_call 20; refine (HG.out _).mono ?_; rintro e w' ⟨rfl, rfl⟩)
            | (go_at_call 21; refine (HT.out.call (fun ok h => PutTag_calls h s (by omega))).mono ?_; rintro e w3 ⟨rfl, hT⟩; rw [HE.out.1, HE.out.2] at hT; have HTf := Aside0.mk hT; clear hT HT)
            | (go_at_call 22; obtain ⟨ok, hPg⟩ := HTf.out.pg; refine (All_calls hPg).mono ?_; rintro e w2 ⟨vb, rfl, hR, hB⟩; rw [(all_ok Bf HFL.out).1]; rw [(all_ok Bf HFL.out).2] at hR; obtain ⟨Ab, cb, hvb, hleb, hCb⟩ := Kd.R_reads hR; subst hvb; have HT2 := Aside0.mk (HTf.out.below hB); have HCb := Aside0.mk (And.intro hleb hCb); clear hPg ok hR hB hleb hCb HTf))
          have HR2 := Aside0.mk (Kd.C_below HR0.out HT2.out.bel)
          have HV2 := Aside0.mk (show Kd.C (Kd.int .i64) w2 Av (placesOf l0.length).length (placesOf l0.length) by
            obtain ⟨A', c', he, _, hC⟩ := Kd.R_reads (own_R HT2.out.own (ok := fun _ => True) (fun _ _ => trivial))
            injection he with h1 h2 h3
            rw [h1]
            exact hC)
          go_loopw [11] (fun i wr => ∃ j n : Nat, i = .int .i64 (j : Int) ∧ Aside0 (j ≤ l0.length) ∧ wr = w2.drewN n) (fun i _ => l0.length - (intOf i).toNat)
          case atStart => exact ⟨0, 0, rfl, ⟨by omega⟩, rfl⟩
          case round =>
            obtain ⟨j, n, rfl, HJ2, rfl⟩ := hrel
            have hj := HJ2.out
            by_cases hlt2 : j < l0.length
            · obtain ⟨ad, had, -⟩ := (C_reads HR2.out).at_ (j : Int) (by omega) (by omega)
              obtain ⟨adp, hadp, -⟩ := (C_reads HV2.out).at_ (j : Int) (by omega) (by rw [places_length]; omega)
              subst had hadp
              have hc1 := (elem_at HR2.out j hlt2).2 _ rfl
              have hc2 := (elem_at HV2.out j (by rw [places_length]; omega)).2 _ rfl
              rw [places_rd _ _ hlt2] at hc2
              have hpl : ((placesOf l0.length).length : Int) = (l0.length : Int) := by rw [places_length]
              have hplt : (j : Int) < ((placesOf l0.length).length : Int) := by rw [places_length]; omega
              have K4 := Aside0.mk (fun m => octets_I32.calls Ab cb Bf (7 * (j : Int)) _ _ (w2.drewN m) (Kd.C_drewN HCb.out.2 m) HCb.out.1 (HI4.out j hlt2))
              have K2 := Aside0.mk (fun m => octets_I16.calls Ab cb Bf (7 * (j : Int) + 4) _ _ (w2.drewN m) (Kd.C_drewN HCb.out.2 m) HCb.out.1 (HI2.out j hlt2))
              have K1 := Aside0.mk (fun m => octets_U8.calls Ab cb Bf (7 * (j : Int) + 6) _ _ (w2.drewN m) (Kd.C_drewN HCb.out.2 m) HCb.out.1 (HI1.out j hlt2))
              obtain ⟨hx0, hx1⟩ := hw _ (rd_mem hlt2)
              clear hpl
              go_wp2_with (first
                | (go_at_call 23; refine (K4.out _).mono ?_; rintro e w' ⟨rfl, hd⟩; obtain ⟨nd, rfl⟩ := hd.out)
                | (go_at_call 24; refine (K2.out _).mono ?_; rintro e w' ⟨rfl, hd⟩; obtain ⟨nd, rfl⟩ := hd.out)
                | (go_at_call 25; refine (K1.out _).mono ?_; rintro e w' ⟨rfl, hd⟩; obtain ⟨nd, rfl⟩ := hd.out))
              go_roundw
              case rel => exact ⟨j + 1, _, by go_num, ⟨by omega⟩, rfl⟩
              case measure => simp [intOf]; omega
            · obtain rfl : j = l0.length := by omega
              have KT := Aside0.mk (fun m => octets_Tag.calls Ab cb Bf (7 * (l0.length : Int)) _ _ (w2.drewN m) (Kd.C_drewN HCb.out.2 m) HCb.out.1 HTG.out)
              clear hj
              go_wp2_with (first
                | (go_at_call 26; refine (KT.out _).mono ?_; rintro e w3 ⟨rfl, hB⟩; have HB3 := Aside0.mk (below_then (pw_below_drewN HT2.out.bel _) (by simpa using HT2.out.base_le) hB); clear hB)
                | (go_at_call 20; refine (HG.out _).mono ?_; rintro e w' ⟨rfl, rfl⟩))
              go_ret
              exact ⟨rfl, HB3.out⟩
        · have hg' : good s = false := by simpa using hg
          have HTG := Aside0.mk (show octets_Tag.f Bf (7 * (l0.length : Int)) = some (⟨#[]⟩, false) by
            rw [← hBf, ← ht0, if_neg hg, ← HL.out, List.append_nil]; exact tag_no _ (by rw [HBL.out]; omega))
          have HTf := Aside0.mk (show Two w wr w.heap.size w1.heap.size Bf [] false (.slice Av (placesOf l0.length).length cv) (placesOf l0.length) by
            rw [← hBf, ← ht0, if_neg hg, List.append_nil]; exact HT.out)
          clear hBf ht0 hg
          go_wp2_with (first
            | (go_at_call 16; obtain ⟨ok, hPg⟩ := HT.out.pg; refine (here_calls hPg).mono ?_; rintro e w' ⟨rfl, rfl⟩; rw [HL.out]; clear hPg ok)
            | (go_at_call 20; refine (HG.out _).mono ?_; rintro e w' ⟨rfl, rfl⟩)
            | (go_at_call 22; obtain ⟨ok, hPg⟩ := HTf.out.pg; refine (All_calls hPg).mono ?_; rintro e w2 ⟨vb, rfl, hR, hB⟩; rw [(all_ok Bf HFL.out).1]; rw [(all_ok Bf HFL.out).2] at hR; obtain ⟨Ab, cb, hvb, hleb, hCb⟩ := Kd.R_reads hR; subst hvb; have HT2 := Aside0.mk (HTf.out.below hB); have HCb := Aside0.mk (And.intro hleb hCb); clear hPg ok hR hB hleb hCb HTf))
          have HR2 := Aside0.mk (Kd.C_below HR0.out HT2.out.bel)
          have HV2 := Aside0.mk (show Kd.C (Kd.int .i64) w2 Av (placesOf l0.length).length (placesOf l0.length) by
            obtain ⟨A', c', he, _, hC⟩ := Kd.R_reads (own_R HT2.out.own (ok := fun _ => True) (fun _ _ => trivial))
            injection he with h1 h2 h3
            rw [h1]
            exact hC)
          go_loopw [11] (fun i wr => ∃ j n : Nat, i = .int .i64 (j : Int) ∧ Aside0 (j ≤ l0.length) ∧ wr = w2.drewN n) (fun i _ => l0.length - (intOf i).toNat)
          case atStart => exact ⟨0, 0, rfl, ⟨by omega⟩, rfl⟩
          case round =>
            obtain ⟨j, n, rfl, HJ2, rfl⟩ := hrel
            have hj := HJ2.out
            by_cases hlt2 : j < l0.length
            · obtain ⟨ad, had, -⟩ := (C_reads HR2.out).at_ (j : Int) (by omega) (by omega)
              obtain ⟨adp, hadp, -⟩ := (C_reads HV2.out).at_ (j : Int) (by omega) (by rw [places_length]; omega)
              subst had hadp
              have hc1 := (elem_at HR2.out j hlt2).2 _ rfl
              have hc2 := (elem_at HV2.out j (by rw [places_length]; omega)).2 _ rfl
              rw [places_rd _ _ hlt2] at hc2
              have hpl : ((placesOf l0.length).length : Int) = (l0.length : Int) := by rw [places_length]
              have hplt : (j : Int) < ((placesOf l0.length).length : Int) := by rw [places_length]; omega
              have K4 := Aside0.mk (fun m => octets_I32.calls Ab cb Bf (7 * (j : Int)) _ _ (w2.drewN m) (Kd.C_drewN HCb.out.2 m) HCb.out.1 (HI4.out j hlt2))
              have K2 := Aside0.mk (fun m => octets_I16.calls Ab cb Bf (7 * (j : Int) + 4) _ _ (w2.drewN m) (Kd.C_drewN HCb.out.2 m) HCb.out.1 (HI2.out j hlt2))
              have K1 := Aside0.mk (fun m => octets_U8.calls Ab cb Bf (7 * (j : Int) + 6) _ _ (w2.drewN m) (Kd.C_drewN HCb.out.2 m) HCb.out.1 (HI1.out j hlt2))
              obtain ⟨hx0, hx1⟩ := hw _ (rd_mem hlt2)
              clear hpl
              go_wp2_with (first
                | (go_at_call 23; refine (K4.out _).mono ?_; rintro e w' ⟨rfl, hd⟩; obtain ⟨nd, rfl⟩ := hd.out)
                | (go_at_call 24; refine (K2.out _).mono ?_; rintro e w' ⟨rfl, hd⟩; obtain ⟨nd, rfl⟩ := hd.out)
                | (go_at_call 25; refine (K1.out _).mono ?_; rintro e w' ⟨rfl, hd⟩; obtain ⟨nd, rfl⟩ := hd.out))
              go_roundw
              case rel => exact ⟨j + 1, _, by go_num, ⟨by omega⟩, rfl⟩
              case measure => simp [intOf]; omega
            · obtain rfl : j = l0.length := by omega
              have KT := Aside0.mk (fun m => octets_Tag.calls Ab cb Bf (7 * (l0.length : Int)) _ _ (w2.drewN m) (Kd.C_drewN HCb.out.2 m) HCb.out.1 HTG.out)
              clear hj
              go_wp2_with (first
                | (go_at_call 26; refine (KT.out _).mono ?_; rintro e w3 ⟨rfl, hB⟩; have HB3 := Aside0.mk (below_then (pw_below_drewN HT2.out.bel _) (by simpa using HT2.out.base_le) hB); clear hB)
                | (go_at_call 20; refine (HG.out _).mono ?_; rintro e w' ⟨rfl, rfl⟩))
              go_ret
              exact ⟨rfl, HB3.out⟩
end Go.Proofs.Ytmppdgjnibamlaa.Pag
