/- The methods of no page at all. -/
import Derived.Test.YtmppdgjnibamlaaO4G
namespace Go.Proofs.Ytmppdgjnibamlaa.Pag
open Go.RowKit Go.Proofs.YtmppdgjnibamlaaW.PrintWords
set_option linter.unusedVariables false
set_option linter.unusedSimpArgs false

theorem nil_over (w : World) : Calls Try.prog 60 #[.pointer none] w fun e w' => e = .returned (.bool true) ∧ w = w' := by
  go_enter Try.func60, Try.ntmps60
  go_wp2
  go_ret
  exact ⟨rfl, rfl⟩
theorem nil_fail (w : World) : Calls Try.prog 61 #[.pointer none] w fun e w' => e = .returned (.tuple #[]) ∧ w = w' := by
  go_enter Try.func61, Try.ntmps61
  go_wp2
  first | go_end0 | ((try simp only [Exit.inBlock, Exit.then]); refine bodyPost_ret (results_none rfl _ _ _) rfl ?_)
  exact ⟨rfl, rfl⟩
theorem nil_here (w : World) : Calls Try.prog 16 #[.pointer none] w fun e w' => e = .returned (.int .i64 0) ∧ w = w' := by
  go_enter Try.func16, Try.ntmps16
  go_wp2
  go_ret
  exact ⟨rfl, rfl⟩
theorem nil_put (w : World) (x n : Int) : Calls Try.prog 59 #[.pointer none, .int .i64 x, .int .i64 n] w fun e w' => e = .returned (.tuple #[]) ∧ w = w' := by
  have HC := Aside0.mk (nil_over w)
  go_enter Try.func59, Try.ntmps59
  go_wp2_with (go_at_call 60; refine HC.out.mono ?_; rintro e w' ⟨rfl, rfl⟩)
  first | go_end0 | ((try simp only [Exit.inBlock, Exit.then]); refine bodyPost_ret (results_none rfl _ _ _) rfl ?_)
  exact ⟨rfl, rfl⟩
theorem nil_put8 (w : World) (x : Int) : Calls Try.prog 19 #[.pointer none, .int .i64 x] w fun e w' => e = .returned (.tuple #[]) ∧ w = w' := by
  have HC := Aside0.mk (nil_put w)
  go_enter Try.func19, Try.ntmps19
  go_wp2_with (go_at_call 59; refine (HC.out _ _).mono ?_; rintro e w' ⟨rfl, rfl⟩)
  first | go_end0 | ((try simp only [Exit.inBlock, Exit.then]); refine bodyPost_ret (results_none rfl _ _ _) rfl ?_)
  exact ⟨rfl, rfl⟩
theorem nil_putBytes (w : World) (v : Value) : Calls Try.prog 32 #[.pointer none, v] w fun e w' => e = .returned (.tuple #[]) ∧ w = w' := by
  have HC := Aside0.mk (nil_over w)
  go_enter Try.func32, Try.ntmps32
  go_wp2_with (go_at_call 60; refine HC.out.mono ?_; rintro e w' ⟨rfl, rfl⟩)
  first | go_end0 | ((try simp only [Exit.inBlock, Exit.then]); refine bodyPost_ret (results_none rfl _ _ _) rfl ?_)
  exact ⟨rfl, rfl⟩
theorem nil_now (w : World) (x n : Int) : Calls Try.prog 28 #[.pointer none, .int .i64 x, .int .i64 n] w fun e w' => e = .returned (.tuple #[]) ∧ w = w' := by
  have HC := Aside0.mk (nil_over w)
  go_enter Try.func28, Try.ntmps28
  go_wp2_with (go_at_call 60; refine HC.out.mono ?_; rintro e w' ⟨rfl, rfl⟩)
  first | go_end0 | ((try simp only [Exit.inBlock, Exit.then]); refine bodyPost_ret (results_none rfl _ _ _) rfl ?_)
  exact ⟨rfl, rfl⟩
theorem nil_pad (w : World) (n : Int) : Calls Try.prog 33 #[.pointer none, .int .i64 n] w fun e w' => e = .returned (.tuple #[]) ∧ w = w' := by
  have HC := Aside0.mk (nil_over w)
  go_enter Try.func33, Try.ntmps33
  go_wp2_with (go_at_call 60; refine HC.out.mono ?_; rintro e w' ⟨rfl, rfl⟩)
  first | go_end0 | ((try simp only [Exit.inBlock, Exit.then]); refine bodyPost_ret (results_none rfl _ _ _) rfl ?_)
  exact ⟨rfl, rfl⟩
theorem nil_all (w : World) : Calls Try.prog 22 #[.pointer none] w fun e w' => e = .returned (.tuple #[.slice none 0 0, .int .i64 4]) ∧ w = w' := by
  go_enter Try.func22, Try.ntmps22
  go_wp2
  go_ret2
  exact ⟨rfl, rfl⟩
theorem nil_later (w : World) : Calls Try.prog 27 #[.pointer none] w fun e w' => e = .returned (.int .i64 (-1)) ∧ w = w' := by
  have HC := Aside0.mk (nil_over w)
  go_enter Try.func27, Try.ntmps27
  go_wp2_with (go_at_call 60; refine HC.out.mono ?_; rintro e w' ⟨rfl, rfl⟩)
  go_ret
  exact ⟨rfl, rfl⟩
end Go.Proofs.Ytmppdgjnibamlaa.Pag
