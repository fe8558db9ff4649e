/- foundrylaw04.awake answers true. No condition. -/
import Derived.Test.YtmppdgjnibamlaaPgH
import Derived.Test.YtmppdgjnibamlaaPgJ
namespace Go.Proofs.Ytmppdgjnibamlaa.Pag
open Go.RowKit Go.Proofs.YtmppdgjnibamlaaW.PrintWords
set_option linter.unusedVariables false
set_option linter.unusedSimpArgs false

/-- A new page. -/
theorem Pg.new (W : World) (base : Nat) (h : base ≤ W.heap.size) :
    Pg (W.alloc (.cells #[.slice none 0 0, .slice none 0 0, .bool false] 28)) base (fun k => W.heap.size ≤ k) W.heap.size [] [] false :=
  ⟨.slice none 0 0, .slice none 0 0, by simpa using heap_alloc_new W _, h, Nat.le_refl _, own_nil _ _ _ _, own_nil _ _ _ _, fun k hk => by simp [Value.ownBlock] at hk, fun k hk => by simp [Value.ownBlock] at hk⟩

set_option maxHeartbeats 1000000 in
set_option maxRecDepth 100000 in
theorem awake4_calls (w : World) :
    Calls Try.prog 15 #[] w fun e w' => e = .returned (.bool true) ∧ Below w.heap.size w w' := by
  have HP := Aside0.mk (Put16_calls (Pg.new w w.heap.size (Nat.le_refl _)) (-2))
  have HW := Aside0.mk ((Below.refl w.heap.size w).alloc (Nat.le_refl _) (.cells #[.slice none 0 0, .slice none 0 0, .bool false] 28))
  go_enter Try.func15, Try.ntmps15
  go_wp2_with (first
    | (go_at_call 18; refine HP.out.mono ?_; rintro e w1 ⟨rfl, hP⟩; rw [show putB false [] (-2) 2 = [255, 254] by decide, show putF false [] (-2) 2 = false by decide] at hP; have HP1 := Aside0.mk hP; clear hP HP)
    | (go_at_call 22; refine (All_calls HP1.out.pg).mono ?_; rintro e w2 ⟨v, rfl, hR, hB⟩; obtain ⟨A, c, rfl, hle, hC⟩ := Kd.R_reads hR; have HI := Aside0.mk (octets_I16.calls A c [255, 254] 0 (-2) true w2 hC hle (by decide)); have HB2 := Aside0.mk (below_then (HW.out.trans HP1.out.below) (HP1.out.pg.base_le) hB); clear hR hB hle hC)
    | (go_at_call 24; refine HI.out.mono ?_; rintro e w3 ⟨rfl, hd⟩; obtain ⟨nd, rfl⟩ := hd.out))
  go_ret
  exact ⟨rfl, pw_below_drewN HB2.out _⟩
end Go.Proofs.Ytmppdgjnibamlaa.Pag
