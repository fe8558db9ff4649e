/- The heap predicate of a page (octets.Page) that the call itself has made, and its movers. No condition. -/
import Derived.Test.YtmppdgjnibamlaaProg
import Derived.Test.YtmppdgjnibamlaaWMore
import Derived.Test.YtmppdgjnibamlaaWKept
namespace Go.Proofs.Ytmppdgjnibamlaa.Pag
open Go.RowKit Go.Proofs.YtmppdgjnibamlaaW.PrintWords
set_option linter.unusedVariables false
set_option linter.unusedSimpArgs false

/-- Block g is a page of bytes B, waiting places Wt, failed or not; all its blocks are ok, and made from base on. -/
def Pg (w : World) (base : Nat) (ok : Nat → Prop) (g : Nat) (B Wt : List Int) (fl : Bool) : Prop :=
  ∃ v1 v2, w.heap[g]? = some (.cells #[v1, v2, .bool fl] 28 (0, 0)) ∧ base ≤ g ∧ ok g ∧
    w.ownsRow base 5 1 v1 B.length (nums .u8 B) ∧ w.ownsRow base 3 1 v2 Wt.length (nums .i64 Wt) ∧
    (∀ k, v1.ownBlock = some k → ok k) ∧ (∀ k, v2.ownBlock = some k → ok k)

section
variable {w w1 : World} {base g : Nat} {ok ok' : Nat → Prop} {B Wt : List Int} {fl : Bool}

theorem Pg.lt (h : Pg w base ok g B Wt fl) : g < w.heap.size := by
  obtain ⟨v1, v2, hb, _⟩ := h
  exact (Array.getElem?_eq_some_iff.1 hb).1
theorem Pg.ge (h : Pg w base ok g B Wt fl) : base ≤ g := by
  obtain ⟨v1, v2, _, h1, _⟩ := h
  exact h1
theorem Pg.base_le (h : Pg w base ok g B Wt fl) : base ≤ w.heap.size := by
  have := h.lt; have := h.ge; omega
theorem Pg.mono (h : Pg w base ok g B Wt fl) (hk : ∀ k, ok k → ok' k) : Pg w base ok' g B Wt fl := by
  obtain ⟨v1, v2, hb, h1, h2, h3, h4, h5, h6⟩ := h
  exact ⟨v1, v2, hb, h1, hk _ h2, h3, h4, fun k e => hk k (h5 k e), fun k e => hk k (h6 k e)⟩
/-- Its blocks lie in the world. -/
theorem Pg.bound (h : Pg w base ok g B Wt fl) : Pg w base (fun k => ok k ∧ base ≤ k ∧ k < w.heap.size) g B Wt fl := by
  have hl := h.lt
  obtain ⟨v1, v2, hb, h1, h2, h3, h4, h5, h6⟩ := h
  exact ⟨v1, v2, hb, h1, ⟨h2, h1, hl⟩, h3, h4, fun k e => ⟨h5 k e, own_base h3 k e, own_lt h3 k e⟩, fun k e => ⟨h6 k e, own_base h4 k e, own_lt h4 k e⟩⟩
/-- What is ok stays as it is. -/
theorem Pg.move (h : Pg w base ok g B Wt fl) (hm : ∀ k, ok k → k < w.heap.size → w1.heap[k]? = w.heap[k]?) : Pg w1 base ok g B Wt fl := by
  have hl := h.lt
  obtain ⟨v1, v2, hb, h1, h2, h3, h4, h5, h6⟩ := h
  exact ⟨v1, v2, (hm g h2 hl).trans hb, h1, h2, own_move h3 (fun k e => hm k (h5 k e) (own_lt h3 k e)), own_move h4 (fun k e => hm k (h6 k e) (own_lt h4 k e)), h5, h6⟩
theorem Pg.grown (h : Pg w base ok g B Wt fl) {row : Option Nat} (hg : w.grownBy w1 row) (hr : ∀ k, ok k → some k ≠ row) : Pg w1 base ok g B Wt fl :=
  h.move fun k hk hl => hg.block k hl (hr k hk)
theorem Pg.below (h : Pg w base ok g B Wt fl) (hb : Below w.heap.size w w1) : Pg w1 base ok g B Wt fl := h.move fun k _ hl => hb.block k hl
theorem Pg.kept (h : Pg w base ok g B Wt fl) {S : Nat → Prop} (hk : Kept w w1 S) (hn : ∀ k, ok k → ¬ S k) : Pg w1 base ok g B Wt fl := h.move fun k h1 hl => hk.2 k hl (hn k h1)
theorem Pg.alloc (h : Pg w base ok g B Wt fl) (o : Obj) : Pg (w.alloc o) base ok g B Wt fl := h.below (below_alloc (Below.refl _ _) o)
theorem Pg.drewN (h : Pg w base ok g B Wt fl) (n : Nat) : Pg (w.drewN n) base ok g B Wt fl := h
theorem Pg.drew (h : Pg w base ok g B Wt fl) : Pg w.drew base ok g B Wt fl := h
end

/-- What a call on a page leaves: the page, turned; all else that was there as it was. -/
structure Pst (base : Nat) (ok : Nat → Prop) (w w' : World) (g : Nat) (B Wt : List Int) (fl : Bool) : Prop where
  pg : Pg w' base (fun k => ok k ∨ w.heap.size ≤ k) g B Wt fl
  kept : Kept w w' ok
  below : Below base w w'

section
variable {w w1 w2 : World} {base g : Nat} {ok : Nat → Prop} {B Wt B1 Wt1 B2 Wt2 : List Int} {fl fl1 fl2 : Bool}
theorem Pst.refl (h : Pg w base ok g B Wt fl) : Pst base ok w w g B Wt fl := ⟨h.mono fun _ hk => .inl hk, Kept.refl _ _, Below.refl _ _⟩
theorem Pst.of_drewN (h : Pg w base ok g B Wt fl) (n : Nat) : Pst base ok w (w.drewN n) g B Wt fl := ⟨(h.mono fun _ hk => .inl hk).drewN n, (Kept.refl _ _).drewN n, pw_below_drewN (Below.refl _ _) n⟩
/-- Two calls, one behind the other. -/
theorem Pst.trans (h : Pst base ok w w1 g B1 Wt1 fl1) (k : Pst base (fun k => ok k ∨ w.heap.size ≤ k) w1 w2 g B2 Wt2 fl2) : Pst base ok w w2 g B2 Wt2 fl2 :=
  ⟨k.pg.mono fun i hi => by
      rcases hi with hi | hi
      · exact hi
      · exact .inr (Nat.le_trans h.kept.1 hi),
    h.kept.then_ k.kept (fun i hi => hi), h.below.trans k.below⟩
end
end Go.Proofs.Ytmppdgjnibamlaa.Pag
