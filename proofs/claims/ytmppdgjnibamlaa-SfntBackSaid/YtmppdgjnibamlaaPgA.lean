/- Contracts of over, fail, Here of octets.Page, the page made by the call itself. No condition. -/
import Derived.Test.YtmppdgjnibamlaaPg
namespace Go.Proofs.Ytmppdgjnibamlaa.Pag
open Go.RowKit Go.Proofs.YtmppdgjnibamlaaW.PrintWords
set_option linter.unusedVariables false
set_option linter.unusedSimpArgs false

def over (fl : Bool) (B : List Int) : Bool := fl || decide (1048576 < B.length)

set_option maxHeartbeats 400000 in
theorem over_calls {w : World} {base g : Nat} {ok : Nat → Prop} {B Wt : List Int} {fl : Bool} (h : Pg w base ok g B Wt fl) :
    Calls Try.prog 60 #[.pointer (some ⟨g, 0, none⟩)] w fun e w' => e = .returned (.bool (over fl B)) ∧ w = w' := by
  obtain ⟨v1, v2, hb, h1, h2, h3, h4, h5, h6⟩ := h
  obtain ⟨A1, c1, rfl⟩ := own_slice h3
  have C0 : w.cell? ⟨g, 0, none⟩ = some (.slice A1 B.length c1) := (blk_cell hb 0).trans rfl
  have C2 : w.cell? ⟨g, 2, none⟩ = some (.bool fl) := (blk_cell hb 2).trans rfl
  clear hb h1 h2 h3 h4 h5 h6
  cases fl with
  | true =>
    go_enter Try.func60, Try.ntmps60
    go_wp2
    go_ret
    exact ⟨by simp [over], rfl⟩
  | false =>
    go_enter Try.func60, Try.ntmps60
    go_wp2
    go_ret
    exact ⟨by simp [over]; omega, rfl⟩

/-- 'fail': the page has failed. -/
theorem fail_calls {w : World} {base g : Nat} {ok : Nat → Prop} {B Wt : List Int} {fl : Bool} (h : Pg w base ok g B Wt fl) :
    Calls Try.prog 61 #[.pointer (some ⟨g, 0, none⟩)] w fun e w' => e = .returned (.tuple #[]) ∧ Pst base ok w w' g B Wt true := by
  have hP : Pst base ok w (w.setCell ⟨g, 2, none⟩ (.bool true)) g B Wt true := by
    obtain ⟨v1, v2, hb, h1, h2, h3, h4, h5, h6⟩ := h
    have hne1 : v1.ownBlock ≠ some g := fun e => by
      obtain ⟨cs, hc⟩ := own_typed h3 g e
      rw [hb] at hc; simp at hc
    have hne2 : v2.ownBlock ≠ some g := fun e => by
      obtain ⟨cs, hc⟩ := own_typed h4 g e
      rw [hb] at hc; simp at hc
    refine ⟨⟨v1, v2, by simpa using blk_set hb 2 (.bool true), h1, .inl h2, ?_, ?_, fun k e => .inl (h5 k e), fun k e => .inl (h6 k e)⟩, (Kept.refl _ _).setCell (.inl h2) _, (Below.refl _ _).setCell h1 _⟩
    · exact own_move h3 fun k e => Below.heap_setCell _ _ _ _ (fun e2 => hne1 (by rw [e]; simp [e2]))
    · exact own_move h4 fun k e => Below.heap_setCell _ _ _ _ (fun e2 => hne2 (by rw [e]; simp [e2]))
  obtain ⟨v1, v2, hb, h1, h2, h3, h4, h5, h6⟩ := h
  have C2 : w.cell? ⟨g, 2, none⟩ = some (.bool fl) := (blk_cell hb 2).trans rfl
  have F2 : w.frozen? ⟨g, 2, none⟩ = false := by simp [World.frozen?, hb]
  clear hb h1 h2 h3 h4 h5 h6
  go_enter Try.func61, Try.ntmps61
  go_wp2
  go_end0
  exact ⟨rfl, hP⟩

theorem here_calls {w : World} {base g : Nat} {ok : Nat → Prop} {B Wt : List Int} {fl : Bool} (h : Pg w base ok g B Wt fl) :
    Calls Try.prog 16 #[.pointer (some ⟨g, 0, none⟩)] w fun e w' => e = .returned (.int .i64 (B.length : Int)) ∧ w = w' := by
  obtain ⟨v1, v2, hb, h1, h2, h3, h4, h5, h6⟩ := h
  obtain ⟨A1, c1, rfl⟩ := own_slice h3
  have C0 : w.cell? ⟨g, 0, none⟩ = some (.slice A1 B.length c1) := (blk_cell hb 0).trans rfl
  clear hb h1 h2 h3 h4 h5 h6
  go_enter Try.func16, Try.ntmps16
  go_wp2
  go_ret
  exact ⟨rfl, rfl⟩
end Go.Proofs.Ytmppdgjnibamlaa.Pag
