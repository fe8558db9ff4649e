/- PackedCuts: plain. -/
import Derived.Test.YtmppdgjnibamlaaPbY
namespace Go.Proofs.Ytmppdgjnibamlaa.Pure
open Go.RowKit Go.Proofs.Ytmppdgjnibamlaa.PPb Go.Proofs.YtmppdgjnibamlaaW.PrintWords Go.Proofs.YtmppdgjnibamlaaW.PrintLast Go.Proofs.Ytmppdgjnibamlaa.Pag
set_option linter.unusedVariables false
set_option linter.unusedSimpArgs false

theorem rd_more (b q : List Int) (i : Int) (h : i.toNat < b.length) : rd (b ++ q) i = rd b i := by
  simp [rd, List.getD_eq_getElem?_getD, List.getElem?_append_left h]
theorem valP_more {b : List Int} (q : List Int) {two : Bool} {a : Nat} (h : a + szP two ≤ b.length) : valP (b ++ q) two a = valP b two a := by
  unfold valP
  cases two with
  | true =>
    simp only [szP, if_true] at h ⊢
    rw [rd_more _ _ _ (by omega), rd_more _ _ _ (by omega)]
  | false =>
    simp only [szP, Bool.false_eq_true, if_false] at h ⊢
    rw [rd_more _ _ _ (by omega)]
theorem runP_more {b : List Int} (q : List Int) {two : Bool} : ∀ {m a : Nat} {last : Int} {r : List Int × Nat × Int}, runP b two m a last = some r → runP (b ++ q) two m a last = some r
  | 0, a, last, r, h => h
  | m + 1, a, last, r, h => by
    simp only [runP] at h ⊢
    split at h
    · rename_i hs
      obtain ⟨t, ht, rfl⟩ := Option.map_eq_some_iff.1 h
      rw [if_pos (by rw [List.length_append]; omega), valP_more q hs, runP_more q ht]
      rfl
    · cases h
theorem readP_more {b : List Int} (q : List Int) : ∀ {f n a : Nat} {last : Int} {r : List Int × Nat}, a ≤ b.length → readP b f n a last = some r → readP (b ++ q) f n a last = some r ∧ r.2 ≤ b.length
  | 0, n, a, last, r, ha, h => by
    simp only [readP] at h ⊢
    split at h
    · rename_i hz
      rw [if_pos hz]
      injection h with h
      subst h
      exact ⟨rfl, ha⟩
    · cases h
  | f + 1, n, a, last, r, ha, h => by
    simp only [readP] at h ⊢
    split at h
    · rename_i hz
      rw [if_pos hz]
      injection h with h
      subst h
      exact ⟨rfl, ha⟩
    · rename_i hz
      rw [if_neg hz]
      split at h
      · rename_i hs
        rw [if_pos (by rw [List.length_append]; omega), rd_more _ _ _ (by omega)]
        split at h
        · rename_i hg
          rw [if_pos hg]
          cases hr : runP b (decide (128 ≤ rd b (a : Int))) (cntP (rd b (a : Int))) (a + 1) last with
          | none => rw [hr] at h; cases h
          | some t =>
            rw [hr] at h
            rw [runP_more q hr]
            simp only [] at h ⊢
            obtain ⟨u, hu, rfl⟩ := Option.map_eq_some_iff.1 h
            have h1 := runP_len (by omega) hr
            have h2 := readP_more q h1.2 hu
            rw [h2.1]
            exact ⟨rfl, h2.2⟩
        · cases h
      · cases h
theorem endP_code (x : Option (List Int × Nat)) : (endP [] x).2.2 = 0 ∨ (endP [] x).2.2 = 2 := by
  cases x with
  | none => exact .inr rfl
  | some r => unfold endP; simp only []; split <;> simp
theorem endP_more {b : List Int} (q : List Int) {f n a : Nat} {last : Int} (ha : a ≤ b.length) (h : (endP [] (readP b f n a last)).2.2 = 0) : endP [] (readP (b ++ q) f n a last) = endP [] (readP b f n a last) ∧ (endP [] (readP b f n a last)).2.1 ≤ (b.length : Int) := by
  cases hr : readP b f n a last with
  | none => rw [hr] at h; simp [endP] at h
  | some r =>
    have := readP_more q ha hr
    rw [this.1]
    refine ⟨rfl, ?_⟩
    unfold endP
    simp only []
    split
    · simp only []; omega
    · simp only []; omega
theorem tellP_code (b : List Int) : (tellP b).2.2 = 0 ∨ (tellP b).2.2 = 2 := by
  unfold tellP
  split
  · exact .inr rfl
  · split
    · exact endP_code _
    · split
      · exact .inr rfl
      · exact endP_code _
theorem tellP_more (b q : List Int) (h : (tellP b).2.2 = 0) : tellP (b ++ q) = tellP b ∧ (tellP b).2.1 ≤ (b.length : Int) := by
  unfold tellP at h ⊢
  by_cases h0 : b.length = 0
  · rw [if_pos h0] at h; simp at h
  · rw [if_neg h0] at h ⊢
    rw [if_neg (by rw [List.length_append]; omega), rd_more b q 0 (by simp; omega)]
    by_cases h1 : rd b 0 < 128
    · rw [if_pos h1] at h ⊢
      rw [if_pos h1]
      exact endP_more q (by omega) h
    · rw [if_neg h1] at h ⊢
      rw [if_neg h1]
      by_cases h2 : b.length < 2
      · rw [if_pos h2] at h; simp at h
      · rw [if_neg h2] at h ⊢
        rw [if_neg (by rw [List.length_append]; omega), rd_more b q 1 (by simp; omega)]
        exact endP_more q (by omega) h
theorem cut_points (l : List Int) (hr : risingB l = true) (t : Nat) (ht : t < (packP l).length) : (tellP ((packP l).take t)).2.2 = 2 := by
  rcases tellP_code ((packP l).take t) with h | h
  · have h1 := tellP_more _ ((packP l).drop t) h
    rw [List.take_append_drop] at h1
    have h2 := back_points l [] hr
    rw [List.append_nil] at h2
    rw [← h1.1, h2, List.length_take] at h1
    have := h1.2
    simp only [] at this
    omega
  · exact h

theorem valC_more {b : List Int} (q : List Int) {k : Int} {a : Nat} (h : a + szC k ≤ b.length) : valC (b ++ q) k a = valC b k a := by
  unfold valC szC at *
  by_cases h0 : k = 0
  · simp only [if_pos h0] at h ⊢
    rw [rd_more _ _ _ (by omega)]
  · by_cases h1 : k = 1
    · simp only [if_neg h0, if_pos h1] at h ⊢
      rw [rd_more _ _ _ (by omega), rd_more _ _ _ (by omega)]
    · simp only [if_neg h0, if_neg h1]
theorem runC_more {b : List Int} (q : List Int) {k : Int} : ∀ {m a : Nat} {r : List Int × Nat}, runC b k m a = some r → runC (b ++ q) k m a = some r
  | 0, a, r, h => h
  | m + 1, a, r, h => by
    simp only [runC] at h ⊢
    split at h
    · rename_i hs
      obtain ⟨t, ht, rfl⟩ := Option.map_eq_some_iff.1 h
      rw [if_pos (by rw [List.length_append]; omega), valC_more q hs, runC_more q ht]
      rfl
    · cases h
theorem readC_more {b : List Int} (q : List Int) : ∀ {f n a : Nat} {r : List Int × Nat}, a ≤ b.length → readC b f n a = some r → readC (b ++ q) f n a = some r ∧ r.2 ≤ b.length
  | 0, n, a, r, ha, h => by
    simp only [readC] at h ⊢
    split at h
    · rename_i hz
      rw [if_pos hz]
      injection h with h
      subst h
      exact ⟨rfl, ha⟩
    · cases h
  | f + 1, n, a, r, ha, h => by
    simp only [readC] at h ⊢
    split at h
    · rename_i hz
      rw [if_pos hz]
      injection h with h
      subst h
      exact ⟨rfl, ha⟩
    · rename_i hz
      rw [if_neg hz]
      split at h
      · rename_i hs
        rw [rd_more _ _ _ (by omega), if_pos ⟨by rw [List.length_append]; omega, hs.2⟩]
        cases hr : runC b (rd b (a : Int) / 64) (cntC (rd b (a : Int))) (a + 1) with
        | none => rw [hr] at h; cases h
        | some t =>
          rw [hr] at h
          rw [runC_more q hr]
          simp only [] at h ⊢
          obtain ⟨u, hu, rfl⟩ := Option.map_eq_some_iff.1 h
          have h1 := runC_len (by omega) hr
          have h2 := readC_more q h1.2 hu
          rw [h2.1]
          exact ⟨rfl, h2.2⟩
      · cases h
theorem cut_changes (l : List Int) (hin : l.all inC = true) (hl : l.length ≤ 2000) (t : Nat) (ht : t < (packs kindOf 64 encC l).length) : (tellC ((packs kindOf 64 encC l).take t) (l.length : Int)).2.2 = 2 := by
  have hb := back_changes l [] hin hl
  rw [List.append_nil] at hb
  unfold tellC at hb ⊢
  rw [if_neg (by omega)] at hb ⊢
  cases hr : readC ((packs kindOf 64 encC l).take t) (l.length : Int).toNat (l.length : Int).toNat 0 with
  | none => rfl
  | some r =>
    have h1 := readC_more ((packs kindOf 64 encC l).drop t) (by omega) hr
    rw [List.take_append_drop] at h1
    rw [h1.1] at hb
    have h2 := h1.2
    rw [List.length_take] at h2
    simp only [endC, Prod.mk.injEq] at hb
    omega

theorem cuts_changes (c : List Int) (hl : c.length ≤ 2000) (x : Int) (hx0 : 0 ≤ x) (hx1 : x ≤ 65535) (hin : c.all inC = true) (hc : ¬ ((packs kindOf 64 encC c).length : Int) = 0) :
    Ev (fun k => (packed_ReadChanges.f k ((packs kindOf 64 encC c).take ((Int.tmod (wrap64 x) ((packs kindOf 64 encC c).length : Int)) : Int).toNat) (c.length : Int)).bind fun bt => (some (bt.2.2 == 2))) true ∧ 0 ≤ Int.tmod (wrap64 x) ((packs kindOf 64 encC c).length : Int) ∧ Int.tmod (wrap64 x) ((packs kindOf 64 encC c).length : Int) ≤ ((packs kindOf 64 encC c).length : Int) := by
  have hlen := packsC_len c
  rw [wrapIn x (by omega) (by omega), Int.tmod_eq_emod_of_nonneg hx0]
  have h1 := Int.emod_nonneg x hc
  have h2 := Int.emod_lt_of_pos x (show 0 < ((packs kindOf 64 encC c).length : Int) by omega)
  refine ⟨?_, h1, by omega⟩
  have ht := cut_changes c hin hl (x % ((packs kindOf 64 encC c).length : Int)).toNat (by omega)
  have hall : ((packs kindOf 64 encC c).take (x % ((packs kindOf 64 encC c).length : Int)).toNat).all byteB = true := List.all_eq_true.2 fun y hy => List.all_eq_true.1 (packC_bytes c hin) y (List.mem_of_mem_take hy)
  have hE := PC_tell hall (by rw [List.length_take]; omega) (c.length : Int)
  refine Ev.bind hE ?_
  simp only [ht]
  exact Ev.now _

theorem PackedCuts : foundrylaw11_PackedCuts.Pure := by
  intro l c x hm0 hs0 hw0 hm1 hs1 hw1 hx
  have hxf : 0 ≤ x ∧ x ≤ 65535 := by
    simp [Lit.wf, IntKind.min, IntKind.max, IntKind.bits, IntKind.signed] at hx
    omega
  refine Ev.rounds ?_
  unfold foundrylaw11_PackedCuts.f
  simp only [awakeOk, Option.bind_some, if_true]
  have hquit : Ev (fun k => foundrylaw11_PackedCuts.j0 k l c x true) true := Ev.step (fun k => by rw [foundrylaw11_PackedCuts.j0, if_pos rfl, awakeOk, Option.bind_some]) (Ev.now _)
  by_cases hl : (l.length : Int) > 2000
  · simp only [if_pos hl]; exact hquit
  · simp only [if_neg hl]
    by_cases hl2 : (c.length : Int) > 2000
    · rw [show decide ((c.length : Int) > 2000) = true by simp; omega]; exact hquit
    · rw [show decide ((c.length : Int) > 2000) = false by simp; omega]
      obtain ⟨rc, hrc⟩ : ∃ rc, packed_Changes.f c = some rc := ⟨_, rfl⟩
      have hch : ∀ X : Nat → Option Bool, (∀ k, X k = if rc.2 = 0 then (if (rc.1.length : Int) = 0 then (some true) else (if 0 ≤ (Int.tmod (wrap64 x) (rc.1.length : Int)) then (if (Int.tmod (wrap64 x) (rc.1.length : Int)) ≤ (rc.1.length : Int) then ((packed_ReadChanges.f k (rc.1.take ((Int.tmod (wrap64 x) (rc.1.length : Int)) : Int).toNat) (c.length : Int)).bind fun bt => (some (bt.2.2 == 2))) else (none)) else (none))) else (some true)) → Ev X true := by
        intro X hX
        refine Ev.congr hX ?_
        by_cases hg : c.all inC = true ∧ c.length ≤ 2000
        · have : rc = (packs kindOf 64 encC c, 0) := by
            unfold packed_Changes.f at hrc
            rw [if_pos hg] at hrc
            injection hrc with hrc
            exact hrc.symm
          subst this
          simp only [if_true]
          by_cases hz : ((packs kindOf 64 encC c).length : Int) = 0
          · simp only [if_pos hz]; exact Ev.now _
          · have h := cuts_changes c hg.2 x hxf.1 hxf.2 hg.1 hz
            simp only [if_neg hz, if_pos h.2.1, if_pos h.2.2]
            exact h.1
        · have : rc = (([] : List Int), 1) := by
            unfold packed_Changes.f at hrc
            rw [if_neg hg] at hrc
            injection hrc with hrc
            exact hrc.symm
          subst this
          simp only [if_neg (show ¬ (1 : Int) = 0 by omega)]
          exact Ev.now _
      by_cases hr : risingB l = true
      · have hP : packed_Points.f l = some (packP l, 0) := by unfold packed_Points.f packP; rw [if_pos hr]
        have hlen := packP_len l
        have hne : ¬ ((packP l).length : Int) = 0 := by
          unfold packP hdrP
          rw [List.length_append]
          split <;> simp <;> omega
        have h1 := Int.emod_nonneg x hne
        have h2 := Int.emod_lt_of_pos x (show 0 < ((packP l).length : Int) by omega)
        have h3 : x % ((packP l).length : Int) ≤ ((packP l).length : Int) := by omega
        have htm := Aside0.mk (show Int.tmod (wrap64 x) ((packP l).length : Int) = x % ((packP l).length : Int) by rw [wrapIn x (by omega) (by omega), Int.tmod_eq_emod_of_nonneg hxf.1])
        have ht := cut_points l hr (x % ((packP l).length : Int)).toNat (by omega)
        have hall : ((packP l).take (x % ((packP l).length : Int)).toNat).all byteB = true := List.all_eq_true.2 fun y hy => List.all_eq_true.1 (packP_bytes l hr) y (List.mem_of_mem_take hy)
        have hE := P_tell hall (by rw [List.length_take]; omega)
        refine Ev.step (fun k => by rw [foundrylaw11_PackedCuts.j0, if_neg (by simp), hP, Option.bind_some, hrc, Option.bind_some, if_pos rfl, if_neg hne, htm.out, if_pos h1, if_pos h3]) (Ev.bind hE ?_)
        simp only [ht, if_true]
        exact hch _ (fun k => rfl)
      · have hP : packed_Points.f l = some (([] : List Int), 1) := by unfold packed_Points.f; rw [if_neg hr]
        refine Ev.step (fun k => by rw [foundrylaw11_PackedCuts.j0, if_neg (by simp), hP, Option.bind_some, hrc, Option.bind_some, if_neg (by simp)]) ?_
        exact hch _ (fun k => rfl)
end Go.Proofs.Ytmppdgjnibamlaa.Pure
