/- feats.Chosen: the contract, in the print's form. No condition but its own premises. -/
import Derived.Test.YtmppdgjnibamlabFeE
namespace Go.Proofs.Ytmppdgjnibamlab.Pag
open Go.RowKit Go.Maps Go.Proofs.Ytmppdgjnibamlab.PFe Go.Proofs.YtmppdgjnibamlabW.PrintWords
set_option linter.unusedVariables false
set_option linter.unusedSimpArgs false

structure Mp (w wr : World) (ks : List Int) : Prop where
  own : wr.ownsMap Try.prog 3 (plainElem Try.prog 4) w.heap.size ks.length (Dk ks)
  below : Below w.heap.size w wr
theorem Mp.move {w wr w1 : World} {ks : List Int} (h : Mp w wr ks) (hb : Below wr.heap.size wr w1) : Mp w w1 ks := by
  have hl := h.own.lt
  obtain ⟨es, clock, h1, Ft, hs, hD⟩ := h.own
  exact ⟨⟨es, clock, (hb.block _ hl).trans h1, Ft, hs, hD⟩, h.below.trans (hb.mono h.below.size)⟩
theorem wf64 {x : Int} (h : in64 x = true) : (Lit.int .i64 x).wf = true := by
  simp only [in64, Bool.and_eq_true, decide_eq_true_eq] at h
  exact WalkArith.wf_i64 (by omega)

set_option maxHeartbeats 2000000 in
set_option maxRecDepth 100000 in
theorem Chosen_ok (A0 : Option Addr) (c0 : Nat) (l0 : List S102) (A1 : Option Addr) (c1 : Nat) (l1 : List S105) (A2 : Option Addr) (c2 : Nat) (l2 : List Int) (A3 : Option Addr) (c3 : Nat) (l3 : List ByteArray) (w : World)
    (hr0 : Kd.C k102 w A0 l0.length l0) (hc0 : l0.length ≤ c0) (hr1 : Kd.C k105 w A1 l1.length l1) (hc1 : l1.length ≤ c1) (hr2 : Kd.C (Kd.int .i64) w A2 l2.length l2) (hc2 : l2.length ≤ c2) (hr3 : Kd.C Kd.string w A3 l3.length l3) (hc3 : l3.length ≤ c3) (hs : setOk l0 l1 = true) :
    Calls Try.prog 30 #[.slice A0 l0.length c0, .slice A1 l1.length c1, .slice A2 l2.length c2, .slice A3 l3.length c3] w fun e w' => ∃ v0_ : Value, e = .returned (v0_) ∧ Kd.R (Kd.int .i64) 3 w' w.heap.size (fun _ => True) v0_ (sortU (keysTo l0 l1 l2 l3 l0.length)) ∧ Below w.heap.size w w' := by
  have hlen := hr0.2.1
  have HL3 := Aside0.mk hr3.2.1
  have hmm := @run_makeMap Try.prog
  have HR0 := Aside0.mk hr0
  have HR1 := Aside0.mk hr1
  have HR2 := Aside0.mk hr2
  have HR3 := Aside0.mk hr3
  have HC0 := Aside0.mk hc0
  have HC1 := Aside0.mk hc1
  have HC2 := Aside0.mk hc2
  have HC3 := Aside0.mk hc3
  have HS := Aside0.mk hs
  have HL0 := Aside0.mk (setOk_0 hs).1
  have HMS : Aside0 (Mp w (w.alloc (.map #[] 0)) []) := ⟨⟨World.ownsMap_made _ _ _ _, (Below.refl _ _).alloc (Nat.le_refl _) _⟩⟩
  clear hr0 hr1 hr2 hr3 hc0 hc1 hc2 hc3 hs
  go_enter Try.func30, Try.ntmps30
  go_wp2
  go_loopw [17] (fun i wr => ∃ j : Nat, i = .int .i64 (j : Int) ∧ j ≤ l0.length ∧ Aside0 (Mp w wr (keysTo l0 l1 l2 l3 j))) (fun i _ => l0.length - (RowKit.intOf i).toNat)
  case atStart => exact ⟨0, rfl, by omega, HMS⟩
  case round =>
    obtain ⟨j, rfl, hj, HM⟩ := hrel
    clear HMS
    obtain ⟨wo, rfl⟩ : ∃ wo : World, wo = wr := ⟨_, rfl⟩
    by_cases hlt : j < l0.length
    · obtain ⟨ad, B1, d1, had, hx0, hx1, hlc, hC1⟩ := at_T102 (Kd.C_below HR0.out HM.out.below) (j : Int) (by omega) (by omega)
      subst had
      simp only [Int.toNat_natCast] at hx0 hx1
      have hp : (0 : Int) ≤ (j : Int) := by omega
      have hq : (j : Int) < (l0.length : Int) := by omega
      clear hlc hC1
      obtain ⟨kc, hkc⟩ := (contains_ev l3 (rd_T102 l0 (j : Int)).f0 HL3.out).rounds
      cases hb : hasB l3 (rd_T102 l0 (j : Int)).f0 with
      | true =>
        rw [hb] at hkc
        have HKC := Aside0.mk hkc
        obtain ⟨kl, hkl⟩ := (looksF_ev l0 l1 (j : Int) l2 HS.out).rounds
        have HKL := Aside0.mk hkl
        have HAT := Aside0.mk (show keysAt l0 l1 l2 l3 j = looksP l0 l1 (j : Int) l2 by unfold keysAt; rw [if_pos hb])
        have HOK := Aside0.mk (looksP_ok (l3 := l2) (n := (j : Int)) HS.out)
        clear hb hkc hkl
        obtain ⟨ls, hls⟩ : ∃ ls, looksP l0 l1 (j : Int) l2 = ls := ⟨_, rfl⟩
        rw [hls] at HKL HAT HOK
        clear hls
        go_wp2_with (first
          | (go_at_call 68; refine (slices_Contains_string_string.calls kc _ _ l3 _ true _ ?s1 HC3.out HKC.out).mono ?_; (case s1 => exact Kd.C_below HR3.out (by repeat (first | exact HM.out.below | apply below_alloc | apply pw_below_drewN | apply below_drew1))); rintro e w' ⟨rfl, ⟨nd, rfl⟩⟩)
          | (go_at_call 28; refine (feats_Looks.calls kl _ _ l0 _ _ l1 _ _ _ l2 _ _ ?s1 HC0.out ?s2 HC1.out ?s3 HC2.out HKL.out).mono ?_; (case s1 => exact Kd.C_below HR0.out (by repeat (first | exact HM.out.below | apply below_alloc | apply pw_below_drewN | apply below_drew1))); (case s2 => exact Kd.C_below HR1.out (by repeat (first | exact HM.out.below | apply below_alloc | apply pw_below_drewN | apply below_drew1))); (case s3 => exact Kd.C_below HR2.out (by repeat (first | exact HM.out.below | apply below_alloc | apply pw_below_drewN | apply below_drew1))); rintro e w2 ⟨v, rfl, hR, hB⟩; have HRV := Aside0.mk (Kd.R_mono (ok' := fun k => w.heap.size < k) (Kd.R_bound hR) (fun k hk => by have h1 := hk.2.1; have h2 := HM.out.own.lt; simp at h1; omega)); have HMV := Aside0.mk (HM.out.move (below_then (pw_below_drewN (below_alloc (Below.refl _ _) _) _) (by simp) hB)); obtain ⟨E, ce, rfl, -, -⟩ := Kd.R_reads hR; clear hR hB))
        clear hx0 hx1 HKC HKL
        go_loopw [32] (fun i wi => ∃ m : Nat, i = .int .i64 (m : Int) ∧ m ≤ ls.length ∧ Aside0 (Mp w wi (keysTo l0 l1 l2 l3 j ++ ls.take m)) ∧ Aside0 (Kd.R (Kd.int .i64) 3 wi (wo.heap.size + 1) (fun k => w.heap.size < k) (.slice E ls.length ce) ls)) (fun i _ => ls.length - (RowKit.intOf i).toNat)
        case atStart => exact ⟨0, rfl, by omega, ⟨by rw [List.take_zero, List.append_nil]; exact HMV.out⟩, ⟨by have h := HRV.out; simpa using h⟩⟩
        case round =>
          obtain ⟨m, rfl, hm, HM2, HR⟩ := hrel
          clear HMV HRV
          by_cases hlm : m < ls.length
          · obtain ⟨E', ce', he, -, hC⟩ := Kd.R_reads HR.out
            injection he with he1 he2 he3
            subst he1 he3
            obtain ⟨ae, had, hce⟩ := (C_reads hC).2.2 (by omega)
            subst had
            have hcm := hce m hlm
            obtain ⟨x, hx⟩ : ∃ x, ls.getD m 0 = x := ⟨_, rfl⟩
            rw [hx] at hcm
            have hml : (m : Int) < (ls.length : Int) := by omega
            have hm0 : (0 : Int) ≤ (m : Int) := by omega
            have HW : Aside0 ((Lit.int .i64 x).wf = true) := ⟨by
              have h := HOK.out
              simp only [listOk, Bool.and_eq_true, List.all_eq_true] at h
              have e : ls.getD m 0 = ls[m] := by simp [hlm]
              rw [← hx, e]
              exact wf64 (h.2 _ (List.getElem_mem hlm))⟩
            have HN : Aside0 ((keysTo l0 l1 l2 l3 j ++ ls.take m).length < maxLen) := ⟨by
              have h1 := keysTo_len HS.out (l2 := l2) (l3 := l3) j
              have h2 := listOk_le HOK.out
              have h3 := HL0.out
              rw [List.length_append, List.length_take]
              simp only [maxLen]
              have : j * 1000000 ≤ 1000000 * 1000000 := Nat.mul_le_mul_right _ (by omega)
              omega⟩
            have HTK := Aside0.mk (show keysTo l0 l1 l2 l3 j ++ ls.take (m + 1) = (keysTo l0 l1 l2 l3 j ++ ls.take m) ++ [x] by
              rw [← hx]
              rw [List.append_assoc, List.take_succ_eq_append_getElem hlm]; simp [hlm])
            have hll : ls.length ≤ 1000000 := listOk_le HOK.out
            clear hce hC hx
            go_wp2_with (at_mapUpdate; refine wpList_mapUpdate_own _ rfl _ _ _ 107 rfl 3 4 keyedI Try.underlying107 _ w.heap.size _ _ rfl HM2.out.own HN.out _ _ _ rfl rfl (keyOf_int_mk Try.underlying3 HW.out) _ [] (plainElem_bool Try.underlying4 true) ?_; intro w1 hown1 hgrow1; have HO1 := Aside0.mk hown1; have HG1 := Aside0.mk hgrow1; clear hown1 hgrow1)
            go_roundw
            case rel => exact ⟨m + 1, by go_num, by omega, ⟨by
              rw [HTK.out]
              exact ⟨by rw [Dk_snoc, List.length_append]; exact HO1.out, HM2.out.below.grown HG1.out HM2.out.below.size (fun k hk => by cases hk; exact Nat.le_refl _)⟩⟩, ⟨Kd.R_grown HR.out HG1.out (fun k hk e => by injection e with e; omega)⟩⟩
            case measure => simp [RowKit.intOf]; omega
          · obtain rfl : m = ls.length := by omega
            have HME := Aside0.mk (show Mp w wr (keysTo l0 l1 l2 l3 (j + 1)) by
              have h := HM2.out
              rw [List.take_length, ← HAT.out] at h
              exact h)
            clear HM2 HR
            go_wp2
            go_roundw
            case rel => exact ⟨j + 1, by go_num, by omega, HME⟩
            case measure => simp [RowKit.intOf]; omega
      | false =>
        rw [hb] at hkc
        have HKC := Aside0.mk hkc
        have HAT := Aside0.mk (show keysTo l0 l1 l2 l3 (j + 1) = keysTo l0 l1 l2 l3 j by
          rw [keysTo, show keysAt l0 l1 l2 l3 j = [] by unfold keysAt; rw [if_neg (by rw [hb]; simp)], List.append_nil])
        clear hb hkc
        go_wp2_with (go_at_call 68; refine (slices_Contains_string_string.calls kc _ _ l3 _ false _ ?s1 HC3.out HKC.out).mono ?_; (case s1 => exact Kd.C_below HR3.out (by repeat (first | exact HM.out.below | apply below_alloc | apply pw_below_drewN | apply below_drew1))); rintro e w' ⟨rfl, ⟨nd, rfl⟩⟩)
        go_roundw
        case rel => exact ⟨j + 1, by go_num, by omega, ⟨by rw [HAT.out]; exact HM.out.move (pw_below_drewN (below_alloc (Below.refl _ _) _) _)⟩⟩
        case measure => simp [RowKit.intOf]; omega
    · obtain rfl : j = l0.length := by omega
      have HN := Aside0.mk (show (keysTo l0 l1 l2 l3 l0.length).length ≤ 1000000000000 by
        have h1 := keysTo_len HS.out (l2 := l2) (l3 := l3) l0.length
        have h3 := HL0.out
        have : l0.length * 1000000 ≤ 1000000 * 1000000 := Nat.mul_le_mul_right _ h3
        omega)
      have HSC := Aside0.mk (sorted_calls HM.out.own HN.out)
      go_wp2_with (first
        | (go_at_call 70; refine (keysOf_calls _ _).mono ?_; rintro e w' ⟨rfl, rfl⟩)
        | (go_at_call 69; refine HSC.out.mono ?_; rintro e w3 ⟨v, rfl, hR, hB⟩; have HRV := Aside0.mk hR; have HBV := Aside0.mk hB; clear hR hB))
      go_ret
      exact ⟨_, rfl, Kd.R_lower HRV.out HM.out.below.size, below_then HM.out.below HM.out.below.size HBV.out⟩

theorem feats_Chosen.calls (A0 : Option Addr) (c0 : Nat) (l0 : List S102) (A1 : Option Addr) (c1 : Nat) (l1 : List S105) (A2 : Option Addr) (c2 : Nat) (l2 : List Int) (A3 : Option Addr) (c3 : Nat) (l3 : List ByteArray) (r : List Int) (w : World)
    (hr0 : Kd.C k102 w A0 l0.length l0) (hc0 : l0.length ≤ c0) (hr1 : Kd.C k105 w A1 l1.length l1) (hc1 : l1.length ≤ c1) (hr2 : Kd.C (Kd.int .i64) w A2 l2.length l2) (hc2 : l2.length ≤ c2) (hr3 : Kd.C Kd.string w A3 l3.length l3) (hc3 : l3.length ≤ c3) (h : feats_Chosen.f l0 l1 l2 l3 = some r) :
    Calls Try.prog 30 #[.slice A0 l0.length c0, .slice A1 l1.length c1, .slice A2 l2.length c2, .slice A3 l3.length c3] w fun e w' => ∃ v0_ : Value, e = .returned (v0_) ∧ Kd.R (Kd.int .i64) 3 w' w.heap.size (fun _ => True) v0_ r ∧ Below w.heap.size w w' := by
  unfold feats_Chosen.f at h
  split at h
  · rename_i hs
    obtain rfl := Option.some.inj h
    exact Chosen_ok A0 c0 l0 A1 c1 l1 A2 c2 l2 A3 c3 l3 w hr0 hc0 hr1 hc1 hr2 hc2 hr3 hc3 hs
  · cases h
end Go.Proofs.Ytmppdgjnibamlab.Pag
