/- OctetsFails: the walk. -/
import Derived.Test.YtmppdgjnibamlaaO4I
namespace Go.Proofs.Ytmppdgjnibamlaa.Pag
open Go.RowKit Go.Proofs.YtmppdgjnibamlaaW.PrintWords
set_option linter.unusedVariables false
set_option linter.unusedSimpArgs false

set_option maxHeartbeats 400000 in
set_option maxRecDepth 4000000 in
theorem fails_walk (n : Int) (A0 : Option Addr) (c0 : Nat) (l0 : List Int) (w : World) (hr0 : Kd.C (Kd.int .u8) w A0 l0.length l0) (hc0 : l0.length ≤ c0) :
    Calls Try.prog 6 #[.int .i64 n, .slice A0 l0.length c0] w fun e w' => e = .returned (.bool true) ∧ Below w.heap.size w w' := by
  have HR0 := Aside0.mk hr0
  clear hr0
  by_cases hlen : 1000 < l0.length
  · go_enter Try.func6, Try.ntmps6
    have HB := Aside0.mk (Below.refl w.heap.size w)
    go_wp2_with (go_at_call 15; refine (awake4_calls _).mono ?_; rintro e w1 ⟨rfl, hB⟩; have HB1 := Aside0.mk (below_then HB.out HB.out.size hB); clear hB HB; have HB := HB1; clear HB1)
    go_ret
    exact ⟨rfl, HB.out⟩
  · by_cases hn : n < -32768 ∨ n ≥ 65536
    · have HE := Aside0.mk (show putB false [] n 2 = [] ∧ putF false [] n 2 = true by simp [putB, putF, over, hn])
      have HE2 := Aside0.mk (show putsB true [] l0 = [] by simp [putsB, over])
      have HA := Aside0.mk (show allE true [] [] = 4 by rfl)
      rcases hn with hn | hn
      all_goals
        go_enter Try.func6, Try.ntmps6
        go_wp2_with (first
          | (go_at_call 15; refine (awake4_calls _).mono ?_; rintro e w1 ⟨rfl, hB⟩; have HT := Aside0.mk (Two.start (Pg.new w1 w.heap.size hB.size) (hB.alloc hB.size (.cells #[.slice none 0 0, .slice none 0 0, .bool false] 28))); clear hB)
          | (go_at_call 18; refine (HT.out.call (fun ok h => Put16_calls h _)).mono ?_; rintro e w2 ⟨rfl, hT⟩; rw [HE.out.1, HE.out.2] at hT; have HT2 := Aside0.mk hT; clear hT HT)
          | (go_at_call 16; obtain ⟨ok, hPg⟩ := HT2.out.pg; refine (here_calls hPg).mono ?_; rintro e w' ⟨rfl, rfl⟩; clear hPg ok)
          | (go_at_call 32; refine (HT2.out.call (fun ok h => PutBytes_calls h A0 c0 l0 (Kd.C_below HR0.out HT2.out.bel) (by omega))).mono ?_; rintro e w3 ⟨rfl, hT⟩; rw [HE2.out] at hT; have HT3 := Aside0.mk hT; clear hT HT2)
          | (go_at_call 16; obtain ⟨ok, hPg⟩ := HT3.out.pg; refine (here_calls hPg).mono ?_; rintro e w' ⟨rfl, rfl⟩; clear hPg ok)
          | (go_at_call 22; obtain ⟨ok, hPg⟩ := HT3.out.pg; refine (All_calls hPg).mono ?_; rintro e w4 ⟨vb, rfl, hR, hB⟩; rw [HA.out]; have HT4 := Aside0.mk (HT3.out.below hB); clear HT3; have HT3 := HT4; clear HT4; clear hPg ok hR hB)
          | (go_at_call 19; refine (nil_put8 _ _).mono ?_; rintro e w' ⟨rfl, rfl⟩)
          | (go_at_call 28; refine (nil_now _ _ _).mono ?_; rintro e w' ⟨rfl, rfl⟩)
          | (go_at_call 33; refine (nil_pad _ _).mono ?_; rintro e w' ⟨rfl, rfl⟩)
          | (go_at_call 27; refine (nil_later _).mono ?_; rintro e w' ⟨rfl, rfl⟩)
          | (go_at_call 32; refine (nil_putBytes _ _).mono ?_; rintro e w' ⟨rfl, rfl⟩)
          | (go_at_call 22; refine (nil_all _).mono ?_; rintro e w' ⟨rfl, rfl⟩)
          | (go_at_call 16; refine (nil_here _).mono ?_; rintro e w' ⟨rfl, rfl⟩))
        go_ret
        exact ⟨rfl, HT3.out.bel⟩
    · have HE := Aside0.mk (show putB false [] n 2 = be n 2 ∧ putF false [] n 2 = false by
        have := over_small (B := []) (by simp)
        exact ⟨putB_ok this (by omega) (by omega), putF_ok this (by omega) (by omega)⟩)
      have HLN := Aside0.mk (show ((be n 2).length : Int) = 2 by rw [be_length]; rfl)
      have HE2 := Aside0.mk (show putsB false (be n 2) l0 = be n 2 ++ l0 by
        have := over_small (B := be n 2) (by rw [be_length]; omega)
        simp [putsB, this])
      have HA := Aside0.mk (all_ok (be n 2 ++ l0) (by rw [List.length_append, be_length]; omega)).1
      have hn1 : ¬ n < -32768 := by omega
      have hn2 : n ≤ 65535 := by omega
      have hn3 : -32768 ≤ n := by omega
      clear hn
      go_enter Try.func6, Try.ntmps6
      go_wp2_with (first
          | (go_at_call 15; refine (awake4_calls _).mono ?_; rintro e w1 ⟨rfl, hB⟩; have HT := Aside0.mk (Two.start (Pg.new w1 w.heap.size hB.size) (hB.alloc hB.size (.cells #[.slice none 0 0, .slice none 0 0, .bool false] 28))); clear hB)
          | (go_at_call 18; refine (HT.out.call (fun ok h => Put16_calls h _)).mono ?_; rintro e w2 ⟨rfl, hT⟩; rw [HE.out.1, HE.out.2] at hT; have HT2 := Aside0.mk hT; clear hT HT)
          | (go_at_call 16; obtain ⟨ok, hPg⟩ := HT2.out.pg; refine (here_calls hPg).mono ?_; rintro e w' ⟨rfl, rfl⟩; rw [HLN.out]; clear hPg ok)
          | (go_at_call 32; refine (HT2.out.call (fun ok h => PutBytes_calls h A0 c0 l0 (Kd.C_below HR0.out HT2.out.bel) (by omega))).mono ?_; rintro e w3 ⟨rfl, hT⟩; rw [HE2.out] at hT; have HT3 := Aside0.mk hT; clear hT HT2)
          | (go_at_call 16; obtain ⟨ok, hPg⟩ := HT3.out.pg; refine (here_calls hPg).mono ?_; rintro e w' ⟨rfl, rfl⟩; clear hPg ok)
          | (go_at_call 22; obtain ⟨ok, hPg⟩ := HT3.out.pg; refine (All_calls hPg).mono ?_; rintro e w4 ⟨vb, rfl, hR, hB⟩; rw [HA.out]; have HT4 := Aside0.mk (HT3.out.below hB); clear HT3; have HT3 := HT4; clear HT4; clear hPg ok hR hB)
          | (go_at_call 19; refine (nil_put8 _ _).mono ?_; rintro e w' ⟨rfl, rfl⟩)
          | (go_at_call 28; refine (nil_now _ _ _).mono ?_; rintro e w' ⟨rfl, rfl⟩)
          | (go_at_call 33; refine (nil_pad _ _).mono ?_; rintro e w' ⟨rfl, rfl⟩)
          | (go_at_call 27; refine (nil_later _).mono ?_; rintro e w' ⟨rfl, rfl⟩)
          | (go_at_call 32; refine (nil_putBytes _ _).mono ?_; rintro e w' ⟨rfl, rfl⟩)
          | (go_at_call 22; refine (nil_all _).mono ?_; rintro e w' ⟨rfl, rfl⟩)
          | (go_at_call 16; refine (nil_here _).mono ?_; rintro e w' ⟨rfl, rfl⟩))
      go_ret
      exact ⟨rfl, HT3.out.bel⟩
end Go.Proofs.Ytmppdgjnibamlaa.Pag
