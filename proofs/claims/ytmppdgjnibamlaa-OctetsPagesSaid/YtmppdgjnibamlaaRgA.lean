/- The reference's page: done, All, and what puts nothing new. -/
import Derived.Test.YtmppdgjnibamlaaRg
import Derived.Test.YtmppdgjnibamlaaPgJ
namespace Go.Proofs.Ytmppdgjnibamlaa.Rag
open Go.RowKit Go.Proofs.YtmppdgjnibamlaaW.PrintWords
open Go.Proofs.Ytmppdgjnibamlaa.Pag (over allB allE putB putF putsB tagB tagF laterB laterW padB padF padN good be)
set_option linter.unusedVariables false
set_option linter.unusedSimpArgs false

set_option maxHeartbeats 400000 in
theorem done_calls {w : World} {base g : Nat} {ok : Nat → Prop} {B Wt : List Int} {fl : Bool} (h : Pg w base ok g B Wt fl) :
    Calls Try.prog 108 #[.pointer (some ⟨g, 0, none⟩)] w fun e w' => e = .returned (.bool (over fl B)) ∧ w = w' := by
  obtain ⟨v1, v2, hb, h1, h2, h3, h4, h5, h6⟩ := h
  obtain ⟨A1, c1, rfl⟩ := own_slice h3
  have C0 : w.cell? ⟨g, 0, none⟩ = some (.slice A1 B.length c1) := (blk_cell hb 0).trans rfl
  have C2 : w.cell? ⟨g, 2, none⟩ = some (.bool fl) := (blk_cell hb 2).trans rfl
  clear hb h1 h2 h3 h4 h5 h6
  cases fl with
  | true =>
    go_enter Try.func108, Try.ntmps108
    go_wp2
    go_ret
    exact ⟨by simp [over], rfl⟩
  | false =>
    go_enter Try.func108, Try.ntmps108
    go_wp2
    go_ret
    exact ⟨by simp [over]; omega, rfl⟩

theorem failed {w : World} {base g : Nat} {ok : Nat → Prop} {B Wt : List Int} {fl : Bool} (h : Pg w base ok g B Wt fl) (b : Bool) : Pst base ok w (w.setCell ⟨g, 2, none⟩ (.bool b)) g B Wt b := by
  obtain ⟨v1, v2, hb, h1, h2, h3, h4, h5, h6⟩ := h
  have hne1 : v1.ownBlock ≠ some g := fun e => by
    obtain ⟨cs, hc⟩ := own_typed h3 g e
    rw [hb] at hc; simp at hc
  have hne2 : v2.ownBlock ≠ some g := fun e => by
    obtain ⟨cs, hc⟩ := own_typed h4 g e
    rw [hb] at hc; simp at hc
  refine ⟨⟨v1, v2, by simpa using blk_set hb 2 (.bool b), h1, .inl h2, ?_, ?_, fun k e => .inl (h5 k e), fun k e => .inl (h6 k e)⟩, (Kept.refl _ _).setCell (.inl h2) _, (Below.refl _ _).setCell h1 _⟩
  · exact own_move h3 fun k e => Below.heap_setCell _ _ _ _ (fun e2 => hne1 (by rw [e]; simp [e2]))
  · exact own_move h4 fun k e => Below.heap_setCell _ _ _ _ (fun e2 => hne2 (by rw [e]; simp [e2]))
theorem flag_cell {w : World} {base g : Nat} {ok : Nat → Prop} {B Wt : List Int} {fl : Bool} (h : Pg w base ok g B Wt fl) : w.cell? ⟨g, 2, none⟩ = some (.bool fl) ∧ w.frozen? ⟨g, 2, none⟩ = false := by
  obtain ⟨v1, v2, hb, -⟩ := h
  exact ⟨(blk_cell hb 2).trans rfl, by simp [World.frozen?, hb]⟩

set_option maxHeartbeats 400000 in
theorem rput_over {w : World} {base g : Nat} {ok : Nat → Prop} {B Wt : List Int} {fl : Bool} (h : Pg w base ok g B Wt fl) (x n lo hi : Int) (ho : over fl B = true) :
    Calls Try.prog 107 #[.pointer (some ⟨g, 0, none⟩), .int .i64 x, .int .i64 n, .int .i64 lo, .int .i64 hi] w fun e w' => e = .returned (.tuple #[]) ∧ Pst base ok w w' g B Wt fl := by
  have hP := Aside0.mk (Pst.refl h)
  have HC := Aside0.mk (done_calls h)
  rw [ho] at HC
  clear h
  go_enter Try.func107, Try.ntmps107
  go_wp2_with (go_at_call 108; refine HC.out.mono ?_; rintro e w' ⟨rfl, rfl⟩)
  first | go_end0 | ((try simp only [Exit.inBlock, Exit.then]); refine bodyPost_ret (results_none rfl _ _ _) rfl ?_)
  exact ⟨rfl, hP.out⟩
set_option maxHeartbeats 400000 in
theorem rput_bad {w : World} {base g : Nat} {ok : Nat → Prop} {B Wt : List Int} {fl : Bool} (h : Pg w base ok g B Wt fl) (x n lo hi : Int) (ho : over fl B = false) (hx : x < lo ∨ hi < x) :
    Calls Try.prog 107 #[.pointer (some ⟨g, 0, none⟩), .int .i64 x, .int .i64 n, .int .i64 lo, .int .i64 hi] w fun e w' => e = .returned (.tuple #[]) ∧ Pst base ok w w' g B Wt true := by
  have hP := Aside0.mk (failed h true)
  have HC := Aside0.mk (done_calls h)
  rw [ho] at HC
  obtain ⟨C2, F2⟩ := flag_cell h
  clear h
  by_cases h1 : x < lo
  · clear hx
    go_enter Try.func107, Try.ntmps107
    go_wp2_with (go_at_call 108; refine HC.out.mono ?_; rintro e w' ⟨rfl, rfl⟩)
    first | go_end0 | ((try simp only [Exit.inBlock, Exit.then]); refine bodyPost_ret (results_none rfl _ _ _) rfl ?_)
    exact ⟨rfl, hP.out⟩
  · have h2 : hi < x := by omega
    clear hx
    go_enter Try.func107, Try.ntmps107
    go_wp2_with (go_at_call 108; refine HC.out.mono ?_; rintro e w' ⟨rfl, rfl⟩)
    first | go_end0 | ((try simp only [Exit.inBlock, Exit.then]); refine bodyPost_ret (results_none rfl _ _ _) rfl ?_)
    exact ⟨rfl, hP.out⟩
end Go.Proofs.Ytmppdgjnibamlaa.Rag
