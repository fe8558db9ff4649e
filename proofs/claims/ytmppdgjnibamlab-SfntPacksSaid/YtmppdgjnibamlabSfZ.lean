/- foundryref04.Tag: the contract, in the print's form. No condition but its own premises. -/
import Derived.Test.YtmppdgjnibamlabPSfx3
import Derived.Test.YtmppdgjnibamlabPgJ
namespace Go.Proofs.Ytmppdgjnibamlab.Pag
open Go.RowKit Go.Proofs.Ytmppdgjnibamlab.PSf Go.Proofs.YtmppdgjnibamlabW.PrintWords
set_option linter.unusedVariables false
set_option linter.unusedSimpArgs false

theorem rsigns_ev (s : ByteArray) (hs : s.size = 4) : ∀ d i : Nat, i + d = 4 → Ev (fun k => foundryref04_Good.l0 k s (i : Int)) (signs s d i) := by
  intro d
  induction d with
  | zero =>
    intro i hi
    exact Ev.step (fun k => by rw [foundryref04_Good.l0, if_neg (by omega)]) (Ev.now true)
  | succ d ih =>
    intro i hi
    have hr := ih (i + 1) (by omega)
    have hw : wrap64 ((i : Int) + 1) = ((i + 1 : Nat) : Int) := by unfold wrap64; omega
    by_cases h1 : bt s (i : Int) < 32
    · refine Ev.step (fun k => by rw [foundryref04_Good.l0, if_pos (by omega), if_pos (by omega), if_pos (by omega), if_pos h1]) ?_
      rw [show signs s (d + 1) i = false by simp only [signs]; simp [h1]]
      exact Ev.now _
    · by_cases h2 : bt s (i : Int) > 126
      · refine Ev.step (fun k => by rw [foundryref04_Good.l0, if_pos (by omega), if_pos (by omega), if_pos (by omega), if_neg h1, if_pos h2]) ?_
        rw [show signs s (d + 1) i = false by simp only [signs]; simp [h2]]
        exact Ev.now _
      · refine Ev.step (fun k => by rw [foundryref04_Good.l0, if_pos (by omega), if_pos (by omega), if_pos (by omega), if_neg h1, if_neg h2, hw]) ?_
        rw [show signs s (d + 1) i = signs s d (i + 1) by simp only [signs]; simp [h1, h2]]
        exact hr
theorem rgood_ev (s : ByteArray) (hs : s.size ≤ 9223372036854775807) : Ev (fun k => foundryref04_Good.f k s) (good s) := by
  unfold foundryref04_Good.f good
  by_cases h : s.size = 4
  · simp only [h, if_true, show ((4 : Nat) : Int) = 4 from rfl, decide_true, Bool.and_true]
    exact rsigns_ev s h 4 0 rfl
  · simp only [show ¬ ((s.size : Int) = 4) by omega, if_false, decide_eq_false h, Bool.and_false]
    exact Ev.now _
def foundryref04_Tag.f (l0 : List Int) (a1 : Int) : Option (ByteArray × Bool) := (foundryref04_Cut.f l0 a1 4).bind fun c => if c.2 = true then (if c.1.length ≤ 1000000000000 then (if good (strOfNums c.1) = true then some (strOfNums c.1, true) else some (⟨#[]⟩, false)) else none) else some (⟨#[]⟩, false)

set_option maxHeartbeats 1000000 in
set_option maxRecDepth 100000 in
theorem foundryref04_Tag.calls (A0 : Option Addr) (c0 : Nat) (l0 : List Int) (a1 : Int) (r1 : ByteArray) (r2 : Bool) (w : World) (hr0 : Kd.C (Kd.int .u8) w A0 l0.length l0) (hc0 : l0.length ≤ c0) (h : foundryref04_Tag.f l0 a1 = some (r1, r2)) :
    Calls Try.prog 94 #[.slice A0 l0.length c0, .int .i64 a1] w fun e w' => e = .returned (.tuple #[.string r1, .bool r2]) ∧ Below w.heap.size w w' := by
  unfold foundryref04_Tag.f at h
  obtain ⟨⟨ys, b⟩, hc, h⟩ := Option.bind_eq_some_iff.1 h
  have HC := Aside0.mk (foundryref04_Cut.calls A0 c0 l0 a1 4 ys b w hr0 hc0 hc)
  clear hr0 hc0 hc
  cases b with
  | false =>
    obtain ⟨rfl, rfl⟩ := Prod.mk.inj (Option.some.inj h)
    clear h
    go_enter Try.func94, Try.ntmps94
    go_wp2_with (go_at_call 95; refine HC.out.mono ?_; rintro e w' ⟨v0, rfl, hR, hB⟩; have HB := Aside0.mk hB; clear hR hB)
    go_ret2
    exact ⟨rfl, HB.out⟩
  | true =>
    simp only [if_true] at h
    split at h
    · rename_i hl
      obtain ⟨kg, hkg⟩ := (rgood_ev (strOfNums ys) (by rw [strOfNums_size]; omega)).rounds
      cases hg : good (strOfNums ys) with
      | true =>
        rw [hg] at hkg
        have HG := Aside0.mk (fun W => foundryref04_Good.calls kg (strOfNums ys) true W hkg)
        rw [hg] at h
        obtain ⟨rfl, rfl⟩ := Prod.mk.inj (Option.some.inj h)
        clear h hkg hg hl
        go_enter Try.func94, Try.ntmps94
        go_wp2_with (first | (go_at_call 95; refine HC.out.mono ?_; rintro e w' ⟨v0, rfl, hR, hB⟩; have HB := Aside0.mk hB; have HRR := Aside0.mk hR; have hcv := own_string (P := Try.prog) Try.underlying26 Try.underlying5 Try.underlying9 (R_own1 hR).1; clear hR hB) | (go_at_call 88; refine (HG.out _).mono ?_; rintro e w2 ⟨rfl, ⟨nd, rfl⟩⟩; have hcv2 := own_string (P := Try.prog) Try.underlying26 Try.underlying5 Try.underlying9 (w := World.drewN _ nd) (R_own1 HRR.out).1))
        go_ret2
        exact ⟨rfl, pw_below_drewN HB.out _⟩
      | false =>
        rw [hg] at hkg
        have HG := Aside0.mk (fun W => foundryref04_Good.calls kg (strOfNums ys) false W hkg)
        rw [hg] at h
        obtain ⟨rfl, rfl⟩ := Prod.mk.inj (Option.some.inj h)
        clear h hkg hg hl
        go_enter Try.func94, Try.ntmps94
        go_wp2_with (first | (go_at_call 95; refine HC.out.mono ?_; rintro e w' ⟨v0, rfl, hR, hB⟩; have HB := Aside0.mk hB; have hcv := own_string (P := Try.prog) Try.underlying26 Try.underlying5 Try.underlying9 (R_own1 hR).1; clear hR hB) | (go_at_call 88; refine (HG.out _).mono ?_; rintro e w2 ⟨rfl, ⟨nd, rfl⟩⟩))
        go_ret2
        exact ⟨rfl, pw_below_drewN HB.out _⟩
    · cases h
end Go.Proofs.Ytmppdgjnibamlab.Pag
