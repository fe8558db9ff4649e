/- FeatsTags: plain. -/
import Derived.Test.YtmppdgjnibamlabPFex7
import Derived.Test.YtmppdgjnibamlabFeF
namespace Go.Proofs.Ytmppdgjnibamlab.Pure
open Go.RowKit Go.Proofs.Ytmppdgjnibamlab.PFe Go.Proofs.YtmppdgjnibamlabW.PrintWords Go.Proofs.Ytmppdgjnibamlab.Pag
set_option linter.unusedVariables false
set_option linter.unusedSimpArgs false

theorem hasB_iff (l : List ByteArray) (s : ByteArray) : hasB l s = true ↔ ∃ t ∈ l, s.toList = t.toList := by
  unfold hasB
  rw [List.any_eq_true]
  constructor
  · rintro ⟨t, ht, h⟩; exact ⟨t, ht, of_decide_eq_true h⟩
  · rintro ⟨t, ht, h⟩; exact ⟨t, ht, decide_eq_true h⟩
theorem hasB_mono {l m : List ByteArray} (h : ∀ t ∈ l, t ∈ m) (s : ByteArray) (hb : hasB l s = true) : hasB m s = true := by
  obtain ⟨t, ht, e⟩ := (hasB_iff l s).1 hb
  exact (hasB_iff m s).2 ⟨t, h t ht, e⟩
theorem hasB_turned (l : List ByteArray) (s : ByteArray) : hasB (l.reverse ++ l) s = hasB l s := by
  rw [Bool.eq_iff_iff]
  exact ⟨hasB_mono (fun t ht => by simpa using ht) s, hasB_mono (fun t ht => by simp [ht]) s⟩
theorem keysTo_turned (l0 : List S102) (l1 : List S105) (l2 : List Int) (l3 : List ByteArray) : ∀ i, keysTo l0 l1 l2 (l3.reverse ++ l3) i = keysTo l0 l1 l2 l3 i
  | 0 => rfl
  | i + 1 => by rw [keysTo, keysTo, keysTo_turned l0 l1 l2 l3 i]; unfold keysAt; rw [hasB_turned]
theorem keysTo_mono (l0 : List S102) (l1 : List S105) (l2 : List Int) {l3 m3 : List ByteArray} (h : ∀ t ∈ l3, t ∈ m3) : ∀ i x, x ∈ keysTo l0 l1 l2 l3 i → x ∈ keysTo l0 l1 l2 m3 i
  | 0, x, hx => hx
  | i + 1, x, hx => by
    rw [keysTo, List.mem_append] at hx ⊢
    rcases hx with hx | hx
    · exact .inl (keysTo_mono l0 l1 l2 h i x hx)
    · refine .inr ?_
      unfold keysAt at hx ⊢
      split at hx
      · rename_i hb
        rw [if_pos (hasB_mono h _ hb)]
        exact hx
      · simp at hx

theorem rd_get {l : List Int} {i : Nat} (h : i < l.length) : rd l (i : Int) = l[i] := by simp [rd, h]
/-- Rising numbers among rising ones are met one by one. -/
theorem among_loop (a b : List Int) (ha : a.length ≤ 1000000000000) (hb : b.length ≤ 1000000000000) (ra : a.Pairwise (· < ·)) (rb : b.Pairwise (· < ·)) : ∀ d i : Nat, i + d = a.length → ∀ k : Nat, k ≤ b.length → (∀ x ∈ b.drop k, x ∈ a.drop i) →
    Ev (fun n => foundrylaw22_FeatsTags.l1 n a b (k : Int) (i : Int)) true := by
  intro d
  induction d with
  | zero =>
    intro i hi k hk hin
    have hk2 : k = b.length := by
      refine Classical.byContradiction fun hne => ?_
      have hlt : k < b.length := by omega
      have := hin b[k] (by rw [List.drop_eq_getElem_cons hlt]; exact List.mem_cons_self)
      rw [List.drop_of_length_le (by omega)] at this
      simp at this
    refine Ev.step (fun n => by rw [foundrylaw22_FeatsTags.l1, if_neg (by omega), show ((k : Int) == (b.length : Int)) = true by simp [hk2]]) (Ev.now _)
  | succ d ih =>
    intro i hi k hk hin
    have hlt : i < a.length := by omega
    have w1 : wrap64 ((i : Int) + 1) = ((i + 1 : Nat) : Int) := by rw [wrapOk _ (by omega) (by omega)]; omega
    have w2 : wrap64 ((k : Int) + 1) = ((k + 1 : Nat) : Int) := by rw [wrapOk _ (by omega) (by omega)]; omega
    have hda : a.drop i = a[i] :: a.drop (i + 1) := List.drop_eq_getElem_cons hlt
    have hra : ∀ x ∈ a.drop (i + 1), a[i] < x := by
      have h := ra.sublist (List.drop_sublist i a)
      rw [hda] at h
      exact (List.pairwise_cons.1 h).1
    have hj : Ev (fun n => foundrylaw22_FeatsTags.j3 n a b (k : Int) (i : Int) false) true := by
      by_cases hkl : k < b.length
      · have hdb : b.drop k = b[k] :: b.drop (k + 1) := List.drop_eq_getElem_cons hkl
        have hrb : ∀ x ∈ b.drop (k + 1), b[k] < x := by
          have h := rb.sublist (List.drop_sublist k b)
          rw [hdb] at h
          exact (List.pairwise_cons.1 h).1
        have hbk : b[k] ∈ a.drop i := hin _ (by rw [hdb]; exact List.mem_cons_self)
        by_cases e : b[k] = a[i]
        · refine Ev.step (fun n => by rw [foundrylaw22_FeatsTags.j3, if_neg (by simp), if_pos (by omega), if_pos (by omega), if_pos (by omega), if_pos (by omega), rd_get hkl, rd_get hlt, if_pos e, w1, w2]) (ih (i + 1) (by omega) (k + 1) (by omega) fun x hx => ?_)
          have h1 := hin x (by rw [hdb]; exact List.mem_cons_of_mem _ hx)
          rw [hda] at h1
          rcases List.mem_cons.1 h1 with h1 | h1
          · have := hrb x hx; omega
          · exact h1
        · refine Ev.step (fun n => by rw [foundrylaw22_FeatsTags.j3, if_neg (by simp), if_pos (by omega), if_pos (by omega), if_pos (by omega), if_pos (by omega), rd_get hkl, rd_get hlt, if_neg e, w1]) (ih (i + 1) (by omega) k hk fun x hx => ?_)
          have h1 := hin x hx
          rw [hda] at h1 hbk
          rcases List.mem_cons.1 h1 with h1 | h1
          · rcases List.mem_cons.1 hbk with h2 | h2
            · exact absurd h2 e
            · have h3 := hra _ h2
              rw [hdb] at hx
              rcases List.mem_cons.1 hx with hx | hx
              · omega
              · have := hrb x hx; omega
          · exact h1
      · refine Ev.step (fun n => by rw [foundrylaw22_FeatsTags.j3, if_neg (by simp), if_neg (by omega), w1]) (ih (i + 1) (by omega) k hk fun x hx => ?_)
        rw [List.drop_of_length_le (by omega)] at hx
        simp at hx
    by_cases h0 : (i : Int) > 0
    · obtain ⟨m, rfl⟩ : ∃ m, i = m + 1 := ⟨i - 1, by omega⟩
      have w3 : wrap64 (((m + 1 : Nat) : Int) - 1) = (m : Int) := by rw [wrapOk _ (by omega) (by omega)]; omega
      refine Ev.step (fun n => by rw [foundrylaw22_FeatsTags.l1, if_pos (by omega), if_pos h0, if_pos (by omega), w3, if_pos (by omega), if_pos (by omega), rd_get hlt, rd_get (show m < a.length by omega), show decide (a[m + 1] ≤ a[m]) = false from decide_eq_false (by have := List.pairwise_iff_getElem.1 ra m (m + 1) (by omega) hlt (by omega); omega)]) hj
    · exact Ev.step (fun n => by rw [foundrylaw22_FeatsTags.l1, if_pos (by omega), if_neg h0]) hj

theorem drop_rev_step (l : List ByteArray) (i : Nat) (h : i < l.length) : (l.drop (i + 1)).reverse ++ [l[i]] = (l.drop i).reverse := by
  rw [List.drop_eq_getElem_cons h, List.reverse_cons]
theorem turn_loop (l0 : List S102) (l1 : List S105) (u v : Int) (l2 : List Int) (l3 : List ByteArray) (hs : setOk l0 l1 = true) (h3 : l3.length ≤ 50) : ∀ i : Nat, i ≤ l3.length →
    Ev (fun n => foundrylaw22_FeatsTags.l0 n l2 l3 (l3.drop i).reverse ((i : Int) - 1) l0 l1 u v) true := by
  intro i
  induction i with
  | zero =>
    intro hi
    rw [List.drop_zero]
    refine Ev.step (fun n => by rw [foundrylaw22_FeatsTags.l0, if_neg (by omega), if_pos (by rw [List.length_reverse]; omega), chosen_now hs, Option.bind_some, chosen_now hs, Option.bind_some, keysTo_turned]) ?_
    refine Ev.bind (same_ints _ (by have := keys_bound hs l2 l3; omega)) ?_
    simp only [if_true]
    have w : wrap64 ((l3.length : Int) / 2) = ((l3.length / 2 : Nat) : Int) := by rw [wrapOk _ (by omega) (by omega)]; omega
    refine Ev.congr (f := fun n => foundrylaw22_FeatsTags.l1 n (sortU (keysTo l0 l1 l2 l3 l0.length)) (sortU (keysTo l0 l1 l2 (l3.take (l3.length / 2)) l0.length)) ((0 : Nat) : Int) ((0 : Nat) : Int)) (fun n => by rw [w, if_pos (by omega), if_pos (by omega), Int.toNat_natCast, chosen_now hs, Option.bind_some]; rfl) ?_
    refine among_loop _ _ (keys_bound hs _ _) (keys_bound hs _ _) (sortU_strict _) (sortU_strict _) _ 0 (by rw [Nat.zero_add]) 0 (by omega) ?_
    rw [List.drop_zero, List.drop_zero]
    intro x hx
    rw [mem_sortU] at hx ⊢
    exact keysTo_mono l0 l1 l2 (fun t ht => List.mem_of_mem_take ht) _ x hx
  | succ i ih =>
    intro hi
    have hlt : i < l3.length := by omega
    refine Ev.step (fun n => by rw [foundrylaw22_FeatsTags.l0, if_pos (by omega), if_pos (by omega), if_pos (by omega), if_pos (by rw [List.length_reverse, List.length_drop]; omega), show (((i + 1 : Nat) : Int) - 1) = (i : Int) by omega, rd_getStr hlt, drop_rev_step l3 i hlt, wrapOk _ (by omega) (by omega)]) (ih (by omega))

theorem FeatsTags (l0 : List S102) (l1 : List S105) (u v : Int) (l2 : List Int) (l3 : List ByteArray) {Q0 P1 P2 : Prop} (h : (l0.length * 40 ≤ 140737488351232 ∧ ∀ x ∈ l0, FeatIn x) ∧ (l1.length * 56 ≤ 140737488351232 ∧ ∀ x ∈ l1, SwapIn x) ∧ Q0) (h1 : P1) (h2 : l3.length * 16 ≤ 140737488351232 ∧ P2) : ∃ k, foundrylaw22_FeatsTags.f k l0 l1 u v l2 l3 = some true := by
  refine Ev.rounds ?_
  unfold foundrylaw22_FeatsTags.f
  simp only [awake22, Option.bind_some, if_true]
  obtain ⟨r, hev, hr⟩ := few_ev l0 l1 u v l2 ⟨h.1, h.2.1⟩
  refine Ev.bind hev ?_
  cases r with
  | false =>
    simp only [Bool.false_eq_true, if_false]
    exact Ev.step (fun k => by rw [foundrylaw22_FeatsTags.j0, if_pos rfl, awake22, Option.bind_some]) (Ev.now _)
  | true =>
    obtain ⟨hs, g0, g1, g2⟩ := hr rfl
    simp only [if_true]
    by_cases a : (l3.length : Int) > 50
    · rw [decide_eq_true a]
      exact Ev.step (fun k => by rw [foundrylaw22_FeatsTags.j0, if_pos rfl, awake22, Option.bind_some]) (Ev.now _)
    · rw [decide_eq_false a]
      refine Ev.step (fun k => by rw [foundrylaw22_FeatsTags.j0, if_neg (by simp), wrapOk _ (by omega) (by omega)]) ?_
      have ht := turn_loop l0 l1 u v l2 l3 hs (by omega) l3.length (Nat.le_refl _)
      rw [List.drop_length, List.reverse_nil] at ht
      exact ht
end Go.Proofs.Ytmppdgjnibamlab.Pure
