/- Two pages side by side: octets.Page and the reference's; act. -/
import Derived.Test.YtmppdgjnibamlaaRgE
import Derived.Test.YtmppdgjnibamlaaPgL
import Derived.Test.YtmppdgjnibamlaaPRkx1
namespace Go.Proofs.Ytmppdgjnibamlaa.Duo
open Go.RowKit Go.Proofs.YtmppdgjnibamlaaW.PrintWords
open Go.Proofs.Ytmppdgjnibamlaa.Pag (over allB allE putB putF putsB tagB tagF laterB laterW padB padF padN good be nowB nowW nowF idx idx_cases store4 store4_length C_reads reads_C)
open Go.Proofs.Ytmppdgjnibamlaa.Rag (metIn be_len)
set_option linter.unusedVariables false
set_option linter.unusedSimpArgs false

theorem rd_in {l : List Int} {k : Nat} (h : k < l.length) : rd l (k : Int) ∈ l := by
  have : rd l (k : Int) = l[k] := by simp [rd, h]
  rw [this]; exact List.getElem_mem h

def Duo (X : Nat → Prop) (w : World) (base g1 : Nat) (B1 W1 : List Int) (f1 : Bool) (g2 : Nat) (B2 W2 : List Int) (f2 : Bool) : Prop :=
  ∃ ok1 ok2 : Nat → Prop, Pag.Pg w base ok1 g1 B1 W1 f1 ∧ Rag.Pg w base ok2 g2 B2 W2 f2 ∧ (∀ k, ok1 k → ok2 k → False) ∧ ∀ k, X k → ¬ ok1 k ∧ ¬ ok2 k ∧ k < w.heap.size
section
variable {X : Nat → Prop} {w w1 : World} {base g1 g2 : Nat} {B1 W1 B2 W2 B' W' : List Int} {f1 f2 f' : Bool}
theorem Duo.below (h : Duo X w base g1 B1 W1 f1 g2 B2 W2 f2) (hb : Below w.heap.size w w1) : Duo X w1 base g1 B1 W1 f1 g2 B2 W2 f2 := by
  obtain ⟨ok1, ok2, h1, h2, h3, h4⟩ := h
  exact ⟨ok1, ok2, h1.below hb, h2.below hb, h3, fun k hk => ⟨(h4 k hk).1, (h4 k hk).2.1, Nat.lt_of_lt_of_le (h4 k hk).2.2 hb.size⟩⟩
theorem Duo.weaken (h : Duo X w base g1 B1 W1 f1 g2 B2 W2 f2) : Duo (fun _ => False) w base g1 B1 W1 f1 g2 B2 W2 f2 := by
  obtain ⟨ok1, ok2, h1, h2, h3, h4⟩ := h
  exact ⟨ok1, ok2, h1, h2, h3, fun k hk => hk.elim⟩
theorem Duo.base_le (h : Duo X w base g1 B1 W1 f1 g2 B2 W2 f2) : base ≤ w.heap.size := by
  obtain ⟨ok1, ok2, h1, -⟩ := h
  exact h1.base_le
theorem Duo.boxed (h : Duo X w base g1 B1 W1 f1 g2 B2 W2 f2) (o : Obj) : Duo (fun k => k = w.heap.size) (w.alloc o) base g1 B1 W1 f1 g2 B2 W2 f2 := by
  obtain ⟨ok1, ok2, h1, h2, h3, h4⟩ := h
  refine ⟨_, _, h1.bound.alloc o, h2.bound.alloc o, fun k a b => h3 k a.1 b.1, fun k hk => ⟨fun a => ?_, fun a => ?_, by simp [hk]⟩⟩
  · have := a.2.2; omega
  · have := a.2.2; omega
theorem Duo.one {f : FuncId} {args : Array Value} {e0 : Ending} (h : Duo X w base g1 B1 W1 f1 g2 B2 W2 f2)
    (hc : ∀ ok1, Pag.Pg w base ok1 g1 B1 W1 f1 → Calls Try.prog f args w fun e w' => e = e0 ∧ Pag.Pst base ok1 w w' g1 B' W' f') :
    Calls Try.prog f args w fun e w' => e = e0 ∧ Duo X w' base g1 B' W' f' g2 B2 W2 f2 ∧ Below base w w' ∧ ∀ k, X k → w'.heap[k]? = w.heap[k]? := by
  obtain ⟨ok1, ok2, h1, h2, h3, h4⟩ := h
  refine (hc ok1 h1).mono fun e w' ⟨he, hp⟩ => ⟨he, ⟨_, _, hp.pg, h2.bound.kept hp.kept (fun k a b => h3 k b a.1), fun k a b => ?_, fun k hk => ⟨fun a => ?_, fun a => (h4 k hk).2.1 a.1, Nat.lt_of_lt_of_le (h4 k hk).2.2 hp.kept.1⟩⟩, hp.below, fun k hk => hp.kept.2 k (h4 k hk).2.2 (h4 k hk).1⟩
  · rcases a with a | a
    · exact h3 k a b.1
    · have := b.2.2; omega
  · rcases a with a | a
    · exact (h4 k hk).1 a
    · have := (h4 k hk).2.2; omega
theorem Duo.two {f : FuncId} {args : Array Value} {e0 : Ending} (h : Duo X w base g1 B1 W1 f1 g2 B2 W2 f2)
    (hc : ∀ ok2, Rag.Pg w base ok2 g2 B2 W2 f2 → Calls Try.prog f args w fun e w' => e = e0 ∧ Rag.Pst base ok2 w w' g2 B' W' f') :
    Calls Try.prog f args w fun e w' => e = e0 ∧ Duo X w' base g1 B1 W1 f1 g2 B' W' f' ∧ Below base w w' ∧ ∀ k, X k → w'.heap[k]? = w.heap[k]? := by
  obtain ⟨ok1, ok2, h1, h2, h3, h4⟩ := h
  refine (hc ok2 h2).mono fun e w' ⟨he, hp⟩ => ⟨he, ⟨_, _, h1.bound.kept hp.kept (fun k a b => h3 k a.1 b), hp.pg, fun k a b => ?_, fun k hk => ⟨fun a => (h4 k hk).1 a.1, fun a => ?_, Nat.lt_of_lt_of_le (h4 k hk).2.2 hp.kept.1⟩⟩, hp.below, fun k hk => hp.kept.2 k (h4 k hk).2.2 (h4 k hk).2.1⟩
  · rcases b with b | b
    · exact h3 k a.1 b
    · have := a.2.2; omega
  · rcases a with a | a
    · exact (h4 k hk).2.1 a
    · have := (h4 k hk).2.2; omega
end

/-! The waiting places. -/
def InvW (B Wt : List Int) : Prop := Wt.Pairwise (· < ·) ∧ ∀ x ∈ Wt, 0 ≤ x ∧ x + 4 ≤ (B.length : Int)
theorem InvW.grow {B B' Wt : List Int} (h : InvW B Wt) (hl : B.length ≤ B'.length) : InvW B' Wt := ⟨h.1, fun x hx => by have := h.2 x hx; omega⟩
theorem InvW.later {B Wt : List Int} {fl : Bool} (h : InvW B Wt) : InvW (laterB fl B) (laterW fl B Wt) := by
  unfold laterB laterW
  split
  · exact h
  · refine ⟨?_, fun x hx => ?_⟩
    · rw [List.pairwise_append]
      refine ⟨h.1, by simp, fun a ha b hb => ?_⟩
      have := h.2 a ha
      have hb' : b = (B.length : Int) := by simpa using hb
      omega
    · rw [List.length_append]
      rcases List.mem_append.1 hx with hx | hx
      · have := h.2 x hx; simp; omega
      · have : x = (B.length : Int) := by simpa using hx
        simp; omega
theorem InvW.now {B Wt : List Int} {fl : Bool} {m b : Int} (h : InvW B Wt) : InvW (nowB fl B Wt m b) (nowW fl B Wt m b) := by
  unfold nowB nowW
  split
  · exact h
  · split
    · exact h
    · refine ⟨h.1.sublist (List.eraseIdx_sublist _ _), fun x hx => ?_⟩
      rw [store4_length]
      exact h.2 x ((List.eraseIdx_sublist _ _).subset hx)
theorem len_put (fl : Bool) (B : List Int) (x : Int) (n : Nat) : B.length ≤ (putB fl B x n).length := by
  unfold putB; split
  · exact Nat.le_refl _
  · split
    · exact Nat.le_refl _
    · simp
theorem len_puts (fl : Bool) (B ys : List Int) : B.length ≤ (putsB fl B ys).length := by unfold putsB; split <;> simp
theorem len_tag (fl : Bool) (B : List Int) (s : ByteArray) : B.length ≤ (tagB fl B s).length := by
  unfold tagB; split
  · exact Nat.le_refl _
  · split <;> simp
theorem len_pad (fl : Bool) (B : List Int) (n : Int) : B.length ≤ (padB fl B n).length := by
  unfold padB; split
  · exact Nat.le_refl _
  · split <;> simp
theorem len_laterW (fl : Bool) (B Wt : List Int) : (laterW fl B Wt).length ≤ Wt.length + 1 := by unfold laterW; split <;> simp
theorem len_nowW (fl : Bool) (B Wt : List Int) (m b : Int) : (nowW fl B Wt m b).length ≤ Wt.length := by
  unfold nowW; split
  · exact Nat.le_refl _
  · split
    · exact Nat.le_refl _
    · exact (List.eraseIdx_sublist _ _).length_le

theorem metIn_iff (m : Int) (l : List Int) : metIn m l = true ↔ m ∈ l := by simp [metIn, List.any_eq_true]
theorem leftOf_erase : ∀ (l : List Int) (k : Nat), l.Pairwise (· < ·) → (hk : k < l.length) → Rag.leftOf l[k] l = l.eraseIdx k
  | x :: l, 0, h, _ => by
    obtain ⟨h1, h2⟩ := List.pairwise_cons.1 h
    show Rag.leftOf x (x :: l) = l
    unfold Rag.leftOf
    rw [List.filter_cons]
    simp only [beq_self_eq_true, Bool.not_true, Bool.false_eq_true, if_false]
    exact List.filter_eq_self.2 fun y hy => by have := h1 y hy; simp; omega
  | x :: l, k + 1, h, hk => by
    obtain ⟨h1, h2⟩ := List.pairwise_cons.1 h
    have hk' : k < l.length := by simpa using hk
    have ih := leftOf_erase l k h2 hk'
    show Rag.leftOf l[k] (x :: l) = x :: l.eraseIdx k
    rw [← ih]
    unfold Rag.leftOf
    rw [List.filter_cons, if_pos (by have := h1 l[k] (List.getElem_mem hk'); simp; omega)]

theorem RNow_calls {w : World} {base0 g : Nat} {ok : Nat → Prop} {B Wt : List Int} {fl : Bool} (h : Rag.Pg w base0 ok g B Wt fl) (mark base : Int) (hI : InvW B Wt) (hW : Wt.length ≤ 1000000000) :
    Calls Try.prog 92 #[.pointer (some ⟨g, 0, none⟩), .int .i64 mark, .int .i64 base] w fun e w' => e = .returned (.tuple #[]) ∧ Rag.Pst base0 ok w w' g (nowB fl B Wt mark base) (nowW fl B Wt mark base) (nowF fl B Wt mark base) := by
  by_cases ho : over fl B = true
  · simp only [nowB, nowW, nowF, if_pos ho]
    have HC := Aside0.mk (Rag.done_calls h)
    rw [ho] at HC
    have HP := Aside0.mk (Rag.Pst.refl h)
    clear h
    go_enter Try.func92, Try.ntmps92
    go_wp2_with (go_at_call 108; refine HC.out.mono ?_; rintro e w' ⟨rfl, rfl⟩)
    first | go_end0 | ((try simp only [Exit.inBlock, Exit.then]); refine bodyPost_ret (results_none rfl _ _ _) rfl ?_)
    exact ⟨rfl, HP.out⟩
  · have ho' : over fl B = false := by simpa using ho
    have hmet : idx Wt mark < 0 ↔ metIn mark Wt = false := by
      rw [← Bool.not_eq_true, metIn_iff]
      rcases idx_cases Wt mark with ⟨h1, h2⟩ | ⟨k, h1, h2, h3, _⟩
      · exact ⟨fun _ => h2, fun _ => by omega⟩
      · refine ⟨fun h => by omega, fun h => absurd ?_ h⟩
        rw [h3]; exact rd_in h1
    by_cases hx : idx Wt mark < 0 ∨ base > (B.length : Int) ∨ base < -2147483648
    · simp only [nowB, nowW, nowF, if_neg ho, if_pos hx]
      refine Rag.Now_bad h mark base ho' hW ?_
      cases hm : metIn mark Wt with
      | false => exact .inl rfl
      | true =>
        have hni : ¬ idx Wt mark < 0 := fun h => by rw [hmet.1 h] at hm; cases hm
        rcases hx with hx | hx | hx
        · exact absurd hx hni
        · exact .inr (.inl ⟨rfl, by omega⟩)
        · by_cases hb : (B.length : Int) < base
          · exact .inr (.inl ⟨rfl, hb⟩)
          · exact .inr (.inr ⟨rfl, by omega, hx⟩)
    · simp only [nowB, nowW, nowF, if_neg ho, if_neg hx]
      rcases idx_cases Wt mark with ⟨h1, _⟩ | ⟨k, h2, h3, h4, _⟩
      · omega
      · have e0 : rd Wt (k : Int) = Wt[k] := by simp [rd, h2]
        have hm := hI.2 mark (by rw [h4]; exact rd_in h2)
        obtain ⟨m, rfl⟩ := Int.eq_ofNat_of_zero_le (a := mark) (by omega)
        rw [h3, Int.toNat_natCast, Int.toNat_natCast]
        have hl : Rag.leftOf (m : Int) Wt = Wt.eraseIdx k := by
          rw [h4, e0]
          exact leftOf_erase Wt k hI.1 h2
        rw [← hl]
        exact Rag.Now_ok h m base ho' hW ((metIn_iff _ _).2 (by rw [h4]; exact rd_in h2)) (by omega) (by omega) (by omega)
end Go.Proofs.Ytmppdgjnibamlaa.Duo
