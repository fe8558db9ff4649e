/- packed.runs with the literals of Points. -/
import Derived.Test.YtmppdgjnibamlaaPkA
import Derived.Deep.QuietTactic
import Derived.BigQuiet
import Derived.StillTailTactics
namespace Go.Proofs.Ytmppdgjnibamlaa.Pag
open Go.RowKit Go.Proofs.YtmppdgjnibamlaaW.PrintWords
set_option linter.unusedVariables false
set_option linter.unusedSimpArgs false

set_option maxHeartbeats 1000000 in
set_option maxRecDepth 100000 in
theorem runsP_calls (kd : Int → Int) (L : Nat) (cap : Value) (I : List Int → World → Prop) (A0 : Option Addr) (c0 : Nat) (l0 : List Int) (w : World)
    (hc0 : l0.length ≤ c0) (hL : 1 ≤ L ∧ L ≤ 1000)
    (hk : ∀ x W, Calls Try.prog 72 #[.int .i64 x] W fun e w' => e = .returned (.int .i64 (kd x)) ∧ W = w')
    (hI : ∀ r W, I r W → Kd.C (Kd.int .i64) W A0 l0.length l0) (hID : ∀ r W n, I r W → I r (W.drewN n))
    (hrun : ∀ r A c n W, I r W → (∀ W', Kd.C (Kd.int .i64) W' A0 l0.length l0 → Kd.C (Kd.int .i64) W' A n (r.take n)) → n ≤ c → Run kd L r n →
      Calls Try.prog 73 #[.int .i64 (kd (rd r 0)), .slice A n c, cap] W fun e w' => e = .returned (.tuple #[]) ∧ I (r.drop n) w')
    (h0 : I l0 w) :
    Calls Try.prog 68 #[.slice A0 l0.length c0, .func (.func 72) #[] #[], .int .i64 (L : Int), .func (.func 73) #[] #[cap]] w fun e w' => e = .returned (.tuple #[]) ∧ I [] w' := by
  have HI := Aside0.mk hI
  have HK := Aside0.mk hk
  have HID := Aside0.mk hID
  have HRUN := Aside0.mk hrun
  have H0 := Aside0.mk h0
  obtain ⟨hL1, hL2⟩ := hL
  clear hI hID hk hrun h0
  obtain ⟨i0, hi, hz0, hz1, hz2⟩ := info_parts infoI2
  have HTK := Aside0.mk (fun (A : Option Addr) (c : Nat) (l : List Int) (m : Nat) (h1 : m ≤ l.length) (h2 : l.length ≤ c) => print_take_int (P := Try.prog) (k := .i64) 26 3 Try.underlying26 hi hz1 A c l (m : Int) (by omega) (by omega) h2)
  have HCT := Aside0.mk (fun (A : Option Addr) (c : Nat) (l : List Int) (m : Nat) (h1 : m ≤ l.length) (h2 : l.length ≤ c) => print_cut_int (P := Try.prog) (k := .i64) 26 3 Try.underlying26 hi hz1 A c l (m : Int) (by omega) (by omega) h2)
  simp only [Int.toNat_natCast] at HTK HCT
  clear hi hz0 hz1 hz2
  go_enter Try.func68, Try.ntmps68
  go_wp2
  go_loopw [0] (fun v wr => ∃ (A : Option Addr) (c : Nat) (l : List Int), v = .slice A l.length c ∧ l.length ≤ c ∧ Aside0 (∀ W, Kd.C (Kd.int .i64) W A0 l0.length l0 → Kd.C (Kd.int .i64) W A l.length l) ∧ Aside0 (I l wr)) (fun v _ => match v with | .slice _ n _ => n | _ => 0)
  case atStart => exact ⟨A0, c0, l0, rfl, hc0, ⟨fun W h => h⟩, H0⟩
  case round =>
    obtain ⟨A, c, l, rfl, hc, HR, HQ⟩ := hrel
    by_cases hl : 0 < l.length
    · have HC := Aside0.mk (HR.out _ (HI.out _ _ HQ.out))
      obtain ⟨ad, had, -⟩ := (C_reads HC.out).at_ (0 : Int) (by omega) (by omega)
      subst had
      go_wp2_with fail
      go_loopw [8] (fun v wq => ∃ m : Nat, v = .int .i64 (m : Int) ∧ 1 ≤ m ∧ m ≤ l.length ∧ m ≤ L ∧ Aside0 (∀ i : Nat, i < m → kd (rd l (i : Int)) = kd (rd l 0)) ∧ Aside0 (I l wq)) (fun v _ => l.length - (intOf v).toNat)
      case atStart => exact ⟨1, rfl, by omega, by omega, by omega, ⟨fun i hi => by rw [show i = 0 by omega]; rfl⟩, HQ⟩
      case round =>
        clear HC HQ
        obtain ⟨m, rfl, hm1, hm2, hm3, HA, HQ⟩ := hrel
        have HCq := Aside0.mk (HR.out _ (HI.out _ _ HQ.out))
        have hc1 : wr.cell? ad = some (.int .i64 (rd l 0)) := by
          have h := (cell_at HCq.out 0 hl).2 _ rfl
          rw [show ad.add 0 = ad by cases ad; rfl] at h
          exact h
        rcases (show (m < l.length ∧ m < L ∧ kd (rd l (m : Int)) = kd (rd l 0)) ∨ (m < l.length ∧ m < L ∧ ¬ kd (rd l (m : Int)) = kd (rd l 0)) ∨ (m < l.length ∧ ¬ m < L) ∨ ¬ m < l.length by
          by_cases h1 : m < l.length
          · by_cases h2 : m < L
            · by_cases h3 : kd (rd l (m : Int)) = kd (rd l 0)
              · exact .inl ⟨h1, h2, h3⟩
              · exact .inr (.inl ⟨h1, h2, h3⟩)
            · exact .inr (.inr (.inl ⟨h1, h2⟩))
          · exact .inr (.inr (.inr h1))) with ⟨hm, hmL, hkk⟩ | ⟨hm, hmL, hkk⟩ | ⟨hm, hmL⟩ | hm
        · have hc2 := (cell_at HCq.out m hm).2 _ rfl
          go_wp2_with fail
          go_quiet (first | (go_at_call 72; exact Calls.quiet_of_same ((HK.out _ _).mono fun _ _ h => ⟨h.1, h.2.symm⟩)))
          go_wp2_with fail
          go_roundw
          case rel =>
            refine ⟨m + 1, by go_num, by omega, by omega, by omega, ⟨fun i hi => ?_⟩, ⟨HID.out _ _ _ HQ.out⟩⟩
            rcases Nat.lt_or_ge i m with h | h
            · exact HA.out i h
            · rw [show i = m by omega]; exact hkk
          case measure => simp [intOf]; omega
        · have hc2 := (cell_at HCq.out m hm).2 _ rfl
          have hne : (kd (rd l (m : Int)) == kd (rd l 0)) = false := by simpa using hkk
          have HRN := Aside0.mk (Run.mk hm1 hm2 hm3 HA.out (.inr (.inr hkk)))
          go_wp2_with fail
          go_quiet (first | (go_at_call 72; exact Calls.quiet_of_same ((HK.out _ _).mono fun _ _ h => ⟨h.1, h.2.symm⟩)))
          go_wp2_with fail
          have HIQ := Aside0.mk (fun n => HID.out _ _ n HQ.out)
          obtain ⟨hTake, hTakeR, hTakeL⟩ := HTK.out (some ad) c l m hm2 hc
          have hml : (l.take m).length = m := by rw [List.length_take]; omega
          rw [hml] at hTake hTakeR hTakeL
          have HTR := Aside0.mk (fun W h => reads_C (hTakeR W (C_reads h)))
          have HTL := Aside0.mk hTakeL
          clear hml
          obtain ⟨A2, hCut, hCutR, hCutL⟩ := HCT.out (some ad) c l m hm2 hc
          have HCR := Aside0.mk (fun W h => reads_C (hCutR W (C_reads h)))
          have HCL := Aside0.mk hCutL
          clear hTakeR hTakeL hCutR hCutL
          refine wp_region_still_tail 9 (by kernel_rfl) (by kernel_rfl) ?_
          simp only [List.take_succ_cons, List.take_zero, List.drop_succ_cons, List.drop_zero]
          change wpStill _ _ ((wr.drewN nq).drew) _ _ _
          repeat (first | still_step | still_call ((HK.out _ _).mono fun _ _ h => ⟨h.1, h.2.symm⟩))
          refine wpStill_nil ?_
          change wpList _ _ _ _ _ (wr.drewN (nq + 1))
          go_wp2_with (go_at_call 73; refine (HRUN.out l (some ad) c m _ (HIQ.out _) (fun W h => HTR.out W (HR.out W h)) HTL.out HRN.out).mono ?_; rintro e w2 ⟨rfl, hQ⟩; have HQ2 := Aside0.mk hQ; clear hQ)
          exact ⟨⟨A2, c - m, l.drop m, by rw [List.length_drop], HCL.out, ⟨fun W h => HCR.out W (HR.out W h)⟩, HQ2⟩, by simp; omega⟩
        · have hd : decide ((m : Int) < (L : Int)) = false := by simp; omega
          have HRN := Aside0.mk (Run.mk hm1 hm2 hm3 HA.out (.inr (.inl (by omega))))
          go_wp2_with fail
          go_quiet (first | (go_at_call 72; exact Calls.quiet_of_same ((HK.out _ _).mono fun _ _ h => ⟨h.1, h.2.symm⟩)))
          go_wp2_with fail
          have HIQ := Aside0.mk (fun n => HID.out _ _ n HQ.out)
          obtain ⟨hTake, hTakeR, hTakeL⟩ := HTK.out (some ad) c l m hm2 hc
          have hml : (l.take m).length = m := by rw [List.length_take]; omega
          rw [hml] at hTake hTakeR hTakeL
          have HTR := Aside0.mk (fun W h => reads_C (hTakeR W (C_reads h)))
          have HTL := Aside0.mk hTakeL
          clear hml
          obtain ⟨A2, hCut, hCutR, hCutL⟩ := HCT.out (some ad) c l m hm2 hc
          have HCR := Aside0.mk (fun W h => reads_C (hCutR W (C_reads h)))
          have HCL := Aside0.mk hCutL
          clear hTakeR hTakeL hCutR hCutL
          refine wp_region_still_tail 9 (by kernel_rfl) (by kernel_rfl) ?_
          simp only [List.take_succ_cons, List.take_zero, List.drop_succ_cons, List.drop_zero]
          change wpStill _ _ ((wr.drewN nq).drew) _ _ _
          repeat (first | still_step | still_call ((HK.out _ _).mono fun _ _ h => ⟨h.1, h.2.symm⟩))
          refine wpStill_nil ?_
          change wpList _ _ _ _ _ (wr.drewN (nq + 1))
          go_wp2_with (go_at_call 73; refine (HRUN.out l (some ad) c m _ (HIQ.out _) (fun W h => HTR.out W (HR.out W h)) HTL.out HRN.out).mono ?_; rintro e w2 ⟨rfl, hQ⟩; have HQ2 := Aside0.mk hQ; clear hQ)
          exact ⟨⟨A2, c - m, l.drop m, by rw [List.length_drop], HCL.out, ⟨fun W h => HCR.out W (HR.out W h)⟩, HQ2⟩, by simp; omega⟩
        · have hd : decide ((m : Int) < (l.length : Int)) = false := by simp; omega
          have HRN := Aside0.mk (Run.mk hm1 hm2 hm3 HA.out (.inl (by omega)))
          go_wp2_with fail
          go_quiet (first | (go_at_call 72; exact Calls.quiet_of_same ((HK.out _ _).mono fun _ _ h => ⟨h.1, h.2.symm⟩)))
          go_wp2_with fail
          have HIQ := Aside0.mk (fun n => HID.out _ _ n HQ.out)
          obtain ⟨hTake, hTakeR, hTakeL⟩ := HTK.out (some ad) c l m hm2 hc
          have hml : (l.take m).length = m := by rw [List.length_take]; omega
          rw [hml] at hTake hTakeR hTakeL
          have HTR := Aside0.mk (fun W h => reads_C (hTakeR W (C_reads h)))
          have HTL := Aside0.mk hTakeL
          clear hml
          obtain ⟨A2, hCut, hCutR, hCutL⟩ := HCT.out (some ad) c l m hm2 hc
          have HCR := Aside0.mk (fun W h => reads_C (hCutR W (C_reads h)))
          have HCL := Aside0.mk hCutL
          clear hTakeR hTakeL hCutR hCutL
          refine wp_region_still_tail 9 (by kernel_rfl) (by kernel_rfl) ?_
          simp only [List.take_succ_cons, List.take_zero, List.drop_succ_cons, List.drop_zero]
          change wpStill _ _ ((wr.drewN nq).drew) _ _ _
          repeat (first | still_step | still_call ((HK.out _ _).mono fun _ _ h => ⟨h.1, h.2.symm⟩))
          refine wpStill_nil ?_
          change wpList _ _ _ _ _ (wr.drewN (nq + 1))
          go_wp2_with (go_at_call 73; refine (HRUN.out l (some ad) c m _ (HIQ.out _) (fun W h => HTR.out W (HR.out W h)) HTL.out HRN.out).mono ?_; rintro e w2 ⟨rfl, hQ⟩; have HQ2 := Aside0.mk hQ; clear hQ)
          exact ⟨⟨A2, c - m, l.drop m, by rw [List.length_drop], HCL.out, ⟨fun W h => HCR.out W (HR.out W h)⟩, HQ2⟩, by simp; omega⟩
    · have hl0 : l = [] := List.length_eq_zero_iff.1 (by omega)
      have HF := Aside0.mk (show I [] wr from hl0 ▸ HQ.out)
      go_wp2_with fail
      first | go_end0 | ((try simp only [Exit.inBlock, Exit.then]); refine bodyPost_ret (results_none rfl _ _ _) rfl ?_)
      exact ⟨rfl, HF.out⟩
end Go.Proofs.Ytmppdgjnibamlaa.Pag
