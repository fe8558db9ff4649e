/- A page and a row of whole numbers beside it, both of the call's own. -/
import Derived.Test.YtmppdgjnibamlaaO4A
namespace Go.Proofs.Ytmppdgjnibamlaa.Pag
open Go.RowKit Go.Proofs.YtmppdgjnibamlaaW.PrintWords
set_option linter.unusedVariables false
set_option linter.unusedSimpArgs false

def Two (w0 wr : World) (base g : Nat) (B Wt : List Int) (fl : Bool) (v : Value) (xs : List Int) : Prop :=
  ∃ ok, Pg wr base ok g B Wt fl ∧ wr.ownsRow base 3 1 v xs.length (nums .i64 xs) ∧ (∀ k, v.ownBlock = some k → ¬ ok k) ∧ Below base w0 wr

section
variable {w0 wr w1 : World} {base g : Nat} {B Wt B1 Wt1 : List Int} {fl fl1 : Bool} {v : Value} {xs : List Int}
theorem Two.base_le (h : Two w0 wr base g B Wt fl v xs) : base ≤ wr.heap.size := by
  obtain ⟨ok, h1, -⟩ := h
  exact h1.base_le
theorem Two.bel (h : Two w0 wr base g B Wt fl v xs) : Below base w0 wr := by
  obtain ⟨ok, h1, h2, h3, h4⟩ := h
  exact h4
theorem Two.pg (h : Two w0 wr base g B Wt fl v xs) : ∃ ok, Pg wr base ok g B Wt fl := by
  obtain ⟨ok, h1, -⟩ := h
  exact ⟨ok, h1⟩
theorem Two.own (h : Two w0 wr base g B Wt fl v xs) : wr.ownsRow base 3 1 v xs.length (nums .i64 xs) := by
  obtain ⟨ok, h1, h2, -⟩ := h
  exact h2
theorem Two.start {ok : Nat → Prop} (h : Pg wr base ok g B Wt fl) (hb : Below base w0 wr) : Two w0 wr base g B Wt fl (.slice none 0 0) [] :=
  ⟨ok, h, own_nil _ _ _ _, fun k hk => by simp [Value.ownBlock] at hk, hb⟩
theorem Two.step (h : Two w0 wr base g B Wt fl v xs) (hs : ∀ ok, Pg wr base ok g B Wt fl → Pst base ok wr w1 g B1 Wt1 fl1) : Two w0 w1 base g B1 Wt1 fl1 v xs := by
  obtain ⟨ok, h1, h2, h3, h4⟩ := h
  have hP := hs ok h1
  refine ⟨_, hP.pg, own_move h2 fun k e => hP.kept.2 k (own_lt h2 k e) (h3 k e), fun k e hk => ?_, h4.trans hP.below⟩
  rcases hk with hk | hk
  · exact h3 k e hk
  · have := own_lt h2 k e
    omega
/-- A call on the page. -/
theorem Two.call (h : Two w0 wr base g B Wt fl v xs) {n : Nat} {args : Array Value} {E : Ending} (hc : ∀ ok, Pg wr base ok g B Wt fl → Calls Try.prog n args wr fun e w' => e = E ∧ Pst base ok wr w' g B1 Wt1 fl1) :
    Calls Try.prog n args wr fun e w' => e = E ∧ Two w0 w' base g B1 Wt1 fl1 v xs := by
  obtain ⟨ok, h1, h2, h3, h4⟩ := h
  refine (hc ok h1).mono fun e w' ⟨he, hP⟩ => ⟨he, ⟨_, hP.pg, own_move h2 fun k e => hP.kept.2 k (own_lt h2 k e) (h3 k e), fun k e hk => ?_, h4.trans hP.below⟩⟩
  rcases hk with hk | hk
  · exact h3 k e hk
  · have := own_lt h2 k e
    omega
theorem Two.below (h : Two w0 wr base g B Wt fl v xs) (hb : Below wr.heap.size wr w1) : Two w0 w1 base g B Wt fl v xs := by
  have hbase := h.base_le
  obtain ⟨ok, h1, h2, h3, h4⟩ := h
  exact ⟨ok, h1.below hb, pw_own_below h2 hb, h3, below_then h4 hbase hb⟩
/-- An append to the row. -/
theorem Two.app (h : Two w0 wr base g B Wt fl v xs) {v1 : Value} {ys : List Int} (ho : w1.ownsRow base 3 1 v1 ys.length (nums .i64 ys)) (hB : Below base w0 w1) (hg : wr.grownBy w1 v.ownBlock)
    (hat : v1.ownBlock = v.ownBlock ∨ ∃ b, v1.ownBlock = some b ∧ wr.heap.size ≤ b) : Two w0 w1 base g B Wt fl v1 ys := by
  obtain ⟨ok, h1, h2, h3, h4⟩ := h
  refine ⟨_, h1.bound.grown hg (fun k hk e => h3 k e.symm hk.1), ho, fun k e hk => ?_, hB⟩
  rcases hat with hat | ⟨b, hat, hle⟩
  · exact h3 k (hat ▸ e) hk.1
  · rw [hat] at e
    have : b = k := by simpa using e
    omega
theorem Two.drewN (h : Two w0 wr base g B Wt fl v xs) (n : Nat) : Two w0 (wr.drewN n) base g B Wt fl v xs := by
  obtain ⟨ok, h1, h2, h3, h4⟩ := h
  exact ⟨ok, h1.drewN n, h2, h3, pw_below_drewN h4 n⟩
end

theorem putB_ok {fl : Bool} {B : List Int} {x : Int} {n : Nat} (h : over fl B = false) (h0 : -(2 ^ (8 * n - 1)) ≤ x) (h1 : x < 2 ^ (8 * n)) : putB fl B x n = B ++ be x n := by
  unfold putB
  rw [if_neg (by simp [h]), if_neg (by omega)]
theorem putF_ok {fl : Bool} {B : List Int} {x : Int} {n : Nat} (h : over fl B = false) (h0 : -(2 ^ (8 * n - 1)) ≤ x) (h1 : x < 2 ^ (8 * n)) : putF fl B x n = fl := by
  unfold putF
  rw [if_neg (by simp [h]), if_neg (by omega)]
end Go.Proofs.Ytmppdgjnibamlaa.Pag
