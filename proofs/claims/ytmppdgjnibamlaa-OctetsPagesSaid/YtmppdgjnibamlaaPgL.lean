/- The contract of Now of octets.Page: the page made by the call itself, its waiting places inside its bytes. -/
import Derived.Test.YtmppdgjnibamlaaPgK
namespace Go.Proofs.Ytmppdgjnibamlaa.Pag
open Go.RowKit Go.Proofs.YtmppdgjnibamlaaW.PrintWords
set_option linter.unusedVariables false
set_option linter.unusedSimpArgs false

set_option maxHeartbeats 800000 in
set_option maxRecDepth 100000 in
theorem Now_fail {w : World} {base0 g : Nat} {ok : Nat → Prop} {B Wt : List Int} {fl : Bool} (h : Pg w base0 ok g B Wt fl) (mark base : Int) (ho : over fl B = false)
    (hx : idx Wt mark < 0 ∨ base > (B.length : Int) ∨ base < -2147483648) :
    Calls Try.prog 28 #[.pointer (some ⟨g, 0, none⟩), .int .i64 mark, .int .i64 base] w fun e w' => e = .returned (.tuple #[]) ∧ Pst base0 ok w w' g B Wt true := by
  have HC := Aside0.mk (over_calls h)
  have HF := Aside0.mk (fail_calls h)
  obtain ⟨v1, v2, hb, h1, h2, h3, h4, h5, h6⟩ := h
  obtain ⟨A1, c1, rfl⟩ := own_slice h3
  obtain ⟨A2, c2, hv2, hle2, hC2⟩ := Kd.R_reads (own_R h4 (ok := fun _ => True) (fun _ _ => trivial))
  subst hv2
  have C0 : w.cell? ⟨g, 0, none⟩ = some (.slice A1 B.length c1) := (blk_cell hb 0).trans rfl
  have C1 : w.cell? ⟨g, 1, none⟩ = some (.slice A2 Wt.length c2) := (blk_cell hb 1).trans rfl
  have HI := Aside0.mk (Index_calls A2 c2 Wt mark w hC2)
  clear hb h1 h2 h3 h4 h5 h6 hle2 hC2
  obtain ⟨q, hq⟩ : ∃ q, idx Wt mark = q := ⟨_, rfl⟩
  rw [hq] at hx HI
  clear hq
  by_cases k1 : q < 0
  · clear hx
    go_enter Try.func28, Try.ntmps28
    go_wp2_with (first
      | (go_at_call 60; refine HC.out.mono ?_; rintro e w' ⟨rfl, rfl⟩)
      | (go_at_call 66; refine HI.out.mono ?_; rintro e w' ⟨rfl, rfl⟩)
      | (go_at_call 61; refine HF.out.mono ?_; rintro e w' ⟨rfl, hP2⟩))
    first | go_end0 | ((try simp only [Exit.inBlock, Exit.then]); refine bodyPost_ret (results_none rfl _ _ _) rfl ?_)
    exact ⟨rfl, hP2⟩
  · by_cases k2 : (B.length : Int) < base
    · clear hx
      go_enter Try.func28, Try.ntmps28
      go_wp2_with (first
        | (go_at_call 60; refine HC.out.mono ?_; rintro e w' ⟨rfl, rfl⟩)
        | (go_at_call 66; refine HI.out.mono ?_; rintro e w' ⟨rfl, rfl⟩)
        | (go_at_call 61; refine HF.out.mono ?_; rintro e w' ⟨rfl, hP2⟩))
      first | go_end0 | ((try simp only [Exit.inBlock, Exit.then]); refine bodyPost_ret (results_none rfl _ _ _) rfl ?_)
      exact ⟨rfl, hP2⟩
    · have k3 : base < -2147483648 := by omega
      clear hx
      go_enter Try.func28, Try.ntmps28
      go_wp2_with (first
        | (go_at_call 60; refine HC.out.mono ?_; rintro e w' ⟨rfl, rfl⟩)
        | (go_at_call 66; refine HI.out.mono ?_; rintro e w' ⟨rfl, rfl⟩)
        | (go_at_call 61; refine HF.out.mono ?_; rintro e w' ⟨rfl, hP2⟩))
      first | go_end0 | ((try simp only [Exit.inBlock, Exit.then]); refine bodyPost_ret (results_none rfl _ _ _) rfl ?_)
      exact ⟨rfl, hP2⟩

theorem Now_calls {w : World} {base0 g : Nat} {ok : Nat → Prop} {B Wt : List Int} {fl : Bool} (h : Pg w base0 ok g B Wt fl) (mark base : Int) (hW : ∀ x ∈ Wt, 0 ≤ x ∧ x + 4 ≤ (B.length : Int)) :
    Calls Try.prog 28 #[.pointer (some ⟨g, 0, none⟩), .int .i64 mark, .int .i64 base] w fun e w' => e = .returned (.tuple #[]) ∧ Pst base0 ok w w' g (nowB fl B Wt mark base) (nowW fl B Wt mark base) (nowF fl B Wt mark base) := by
  by_cases ho : over fl B = true
  · simp only [nowB, nowW, nowF, if_pos ho]
    have HC := Aside0.mk (over_calls h)
    have HP := Aside0.mk (Pst.refl h)
    clear h
    go_enter Try.func28, Try.ntmps28
    go_wp2_with (go_at_call 60; refine HC.out.mono ?_; rintro e w' ⟨rfl, rfl⟩)
    first | go_end0 | ((try simp only [Exit.inBlock, Exit.then]); refine bodyPost_ret (results_none rfl _ _ _) rfl ?_)
    exact ⟨rfl, HP.out⟩
  · have ho' : over fl B = false := by simpa using ho
    by_cases hx : idx Wt mark < 0 ∨ base > (B.length : Int) ∨ base < -2147483648
    · simp only [nowB, nowW, nowF, if_neg ho, if_pos hx]
      exact Now_fail h mark base ho' hx
    · simp only [nowB, nowW, nowF, if_neg ho, if_neg hx]
      rcases idx_cases Wt mark with ⟨h1, _⟩ | ⟨k, h2, h3, h4, _⟩
      · omega
      · have hm := hW mark (by rw [h4]; simp [rd, h2])
        obtain ⟨m, rfl⟩ := Int.eq_ofNat_of_zero_le (a := mark) (by omega)
        rw [h3, Int.toNat_natCast, Int.toNat_natCast]
        exact Now_ok h m k base ho' h2 h3 (by omega) (by omega) (by omega)
end Go.Proofs.Ytmppdgjnibamlaa.Pag
