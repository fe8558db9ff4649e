/- What is packed is read as it was, plain. -/
import Derived.Test.YtmppdgjnibamlaaPPbx
namespace Go.Proofs.Ytmppdgjnibamlaa.Pure
open Go.RowKit Go.Proofs.Ytmppdgjnibamlaa.PPb Go.Proofs.YtmppdgjnibamlaaW.PrintWords Go.Proofs.YtmppdgjnibamlaaW.PrintLast Go.Proofs.Ytmppdgjnibamlaa.Pag
set_option linter.unusedVariables false
set_option linter.unusedSimpArgs false

theorem wrapIn (x : Int) (h0 : -9223372036854775808 ≤ x) (h1 : x ≤ 9223372036854775807) : wrap64 x = x := by unfold wrap64; omega
theorem take1 (b : List Int) (a : Nat) (h : a < b.length) : (b.drop a).take 1 = [rd b (a : Int)] := by
  rw [List.drop_eq_getElem_cons h]
  show [b[a]] = _
  simp [rd, h]
theorem take2 (b : List Int) (a : Nat) (h : a + 1 < b.length) : (b.drop a).take 2 = [rd b (a : Int), rd b ((a : Int) + 1)] := by
  rw [List.drop_eq_getElem_cons (by omega), List.drop_eq_getElem_cons (by omega)]
  have e : ((a : Int) + 1).toNat = a + 1 := by omega
  show [b[a], b[a + 1]] = _
  simp [rd, h, show a < b.length by omega, e]
theorem oct_u8 (b : List Int) (hb : b.all byteB = true) (hl : b.length ≤ 1000000) (a : Nat) : octets_U8.f b (a : Int) = some (if a < b.length then (rd b (a : Int), true) else (0, false)) := by
  unfold octets_U8.f octets_field.f
  rw [if_pos ⟨hb, by omega, by omega⟩]
  by_cases h : a < b.length
  · rw [if_neg (by omega), if_pos h, Int.toNat_natCast, show (1 : Int).toNat = 1 from rfl, take1 b a h]
    simp [numBE]
  · rw [if_pos (by omega), if_neg h]
theorem oct_u16 (b : List Int) (hb : b.all byteB = true) (hl : b.length ≤ 1000000) (a : Nat) : octets_U16.f b (a : Int) = some (if a + 2 ≤ b.length then (256 * rd b (a : Int) + rd b ((a : Int) + 1), true) else (0, false)) := by
  unfold octets_U16.f octets_field.f
  rw [if_pos ⟨hb, by omega, by omega⟩]
  by_cases h : a + 2 ≤ b.length
  · rw [if_neg (by omega), if_pos h, Int.toNat_natCast, show (2 : Int).toNat = 2 from rfl, take2 b a (by omega)]
    simp [numBE]
  · rw [if_pos (by omega), if_neg h]
theorem byte_rd {b : List Int} (hb : b.all byteB = true) {a : Nat} (h : a < b.length) : 0 ≤ rd b (a : Int) ∧ rd b (a : Int) ≤ 255 := by
  have := List.all_eq_true.1 hb _ (rd_in h)
  simpa [byteB] using this
theorem byte_rd1 {b : List Int} (hb : b.all byteB = true) {a : Nat} (h : a + 1 < b.length) : 0 ≤ rd b ((a : Int) + 1) ∧ rd b ((a : Int) + 1) ≤ 255 := by
  have := byte_rd hb h
  rwa [show (((a + 1 : Nat)) : Int) = (a : Int) + 1 by omega] at this

def szP (two : Bool) : Nat := if two = true then 2 else 1
def valP (b : List Int) (two : Bool) (a : Nat) : Int := if two = true then 256 * rd b (a : Int) + rd b ((a : Int) + 1) else rd b (a : Int)
def runP (b : List Int) (two : Bool) : Nat → Nat → Int → Option (List Int × Nat × Int)
  | 0, a, last => some ([], a, last)
  | m + 1, a, last => if a + szP two ≤ b.length then (runP b two m (a + szP two) (last + valP b two a)).map (fun r => ((last + valP b two a) :: r.1, r.2.1, r.2.2)) else none
def cntP (c : Int) : Nat := (c % 128).toNat + 1
def readP (b : List Int) : Nat → Nat → Nat → Int → Option (List Int × Nat)
  | 0, n, a, last => if n = 0 then some ([], a) else none
  | f + 1, n, a, last => if n = 0 then some ([], a) else if a < b.length then (if cntP (rd b (a : Int)) ≤ n then
      (match runP b (decide (128 ≤ rd b (a : Int))) (cntP (rd b (a : Int))) (a + 1) last with
        | none => none
        | some r => (readP b f (n - cntP (rd b (a : Int))) r.2.1 r.2.2).map fun q => (r.1 ++ q.1, q.2)) else none) else none
def endP (L : List Int) : Option (List Int × Nat) → List Int × Int × Int
  | none => ([], 0, 2)
  | some q => if risingB (L ++ q.1) = true then (L ++ q.1, (q.2 : Int), 0) else ([], 0, 2)

theorem and127 (x : Int) (h0 : 0 ≤ x) (h1 : x < 65536) : Go.bits .and .i64 x 127 = x % 128 := bits_mask .i64 63 (by decide) wraps_i64 7 (by decide) x h0 (by omega)
theorem and32767 (x : Int) (h0 : 0 ≤ x) (h1 : x < 65536) : Go.bits .and .i64 x 32767 = x % 32768 := bits_mask .i64 63 (by decide) wraps_i64 15 (by decide) x h0 (by omega)

theorem runP_len {b : List Int} {two : Bool} : ∀ {m a : Nat} {last : Int} {r : List Int × Nat × Int}, a ≤ b.length → runP b two m a last = some r → r.1.length = m ∧ r.2.1 ≤ b.length
  | 0, a, last, r, ha, h => by
    simp only [runP, Option.some.injEq] at h
    subst h
    exact ⟨rfl, ha⟩
  | m + 1, a, last, r, ha, h => by
    simp only [runP] at h
    split at h
    · rename_i hs
      obtain ⟨q, hq, rfl⟩ := Option.map_eq_some_iff.1 h
      have := runP_len hs hq
      exact ⟨by simp [this.1], this.2⟩
    · cases h
theorem valP_in {b : List Int} (hb : b.all byteB = true) {two : Bool} {a : Nat} (h : a + szP two ≤ b.length) : 0 ≤ valP b two a ∧ valP b two a ≤ 65535 := by
  unfold valP
  cases two with
  | true =>
    simp only [szP, if_pos] at h ⊢
    have h1 := byte_rd hb (show a < b.length by omega)
    have h2 := byte_rd1 hb (show a + 1 < b.length by omega)
    omega
  | false =>
    simp [szP] at h ⊢
    have h1 := byte_rd hb (show a < b.length by omega)
    omega
theorem runP_last {b : List Int} (hb : b.all byteB = true) {two : Bool} : ∀ {m a : Nat} {last : Int} {r : List Int × Nat × Int}, 0 ≤ last → runP b two m a last = some r → 0 ≤ r.2.2 ∧ r.2.2 ≤ last + 65535 * m
  | 0, a, last, r, hl, h => by
    simp only [runP, Option.some.injEq] at h
    subst h
    exact ⟨hl, by simp⟩
  | m + 1, a, last, r, hl, h => by
    simp only [runP] at h
    split at h
    · rename_i hs
      obtain ⟨q, hq, rfl⟩ := Option.map_eq_some_iff.1 h
      have hv := valP_in hb hs
      have := runP_last hb (by omega) hq
      refine ⟨this.1, Int.le_trans this.2 ?_⟩
      rw [Int.natCast_add]
      omega
    · cases h

theorem P_rising (l : List Int) (hl : l.length ≤ 1000000) : Ev (fun k => packed_rising.f k l) (risingB l) := by
  unfold packed_rising.f
  have main : ∀ n j : Nat, j + n = l.length → (∀ i, i < j → upAt l i = true) → Ev (fun k => packed_rising.l0 k l (before l j) l (l.length : Int) (j : Int)) (risingB l) := by
    intro n
    induction n with
    | zero =>
      intro j hj hu
      refine Ev.step (fun k => by rw [packed_rising.l0, if_neg (by omega)]) ?_
      have : risingB l = decide ((l.length : Int) ≤ 2000) := by
        unfold risingB
        rw [List.all_eq_true.2 (fun i hi => hu i (by rw [List.mem_range] at hi; omega)), Bool.true_and]
        congr 1; simp; omega
      rw [this]
      exact Ev.now _
    | succ n ih =>
      intro j hj hu
      have hlt : j < l.length := by omega
      by_cases h1 : rd l (j : Int) ≤ before l j
      · refine Ev.step (fun k => by rw [packed_rising.l0, if_pos (by omega), if_pos (by omega), if_pos (by omega), if_pos h1]) ?_
        have : risingB l = false := by
          unfold risingB
          rw [Bool.and_eq_false_iff]; left
          rw [Bool.eq_false_iff]
          intro h
          have := List.all_eq_true.1 h j (by simpa using hlt)
          simp [upAt] at this
          omega
        rw [this]
        exact Ev.now _
      · by_cases h2 : rd l (j : Int) > 65535
        · refine Ev.step (fun k => by rw [packed_rising.l0, if_pos (by omega), if_pos (by omega), if_pos (by omega), if_neg h1, if_pos h2]) ?_
          have : risingB l = false := by
            unfold risingB
            rw [Bool.and_eq_false_iff]; left
            rw [Bool.eq_false_iff]
            intro h
            have := List.all_eq_true.1 h j (by simpa using hlt)
            simp [upAt] at this
            omega
          rw [this]
          exact Ev.now _
        · refine Ev.step (fun k => by rw [packed_rising.l0, if_pos (by omega), if_pos (by omega), if_pos (by omega), if_neg h1, if_neg h2, wrapIn _ (by omega) (by omega)]) ?_
          have := ih (j + 1) (by omega) (fun i hi => by
            rcases Nat.lt_or_ge i j with h | h
            · exact hu i h
            · rw [show i = j by omega]; simp [upAt]; omega)
          rw [show before l (j + 1) = rd l (j : Int) by simp [before], show (((j + 1 : Nat)) : Int) = (j : Int) + 1 by omega] at this
          exact this
  exact main l.length 0 (by omega) (fun i hi => by omega)

section
variable {b : List Int} (hb : b.all byteB = true) (hl : b.length ≤ 1000000)
include hb hl
theorem P_run (N : Int) (c : Int) (cnt : Nat) (hcnt : cnt ≤ 1000) : ∀ (m a : Nat) (last : Int) (L : List Int), m ≤ cnt → a ≤ b.length → 0 ≤ last → last ≤ 65535 * (L.length : Int) → L.length + m ≤ 40000 → ∀ res,
    (match runP b (decide (128 ≤ c)) m a last with | none => res = (([] : List Int), (0 : Int), (2 : Int)) | some r => Ev (fun k => packed_ReadPoints.l0 k b N true (r.2.1 : Int) (L ++ r.1) r.2.2) res) →
    Ev (fun k => packed_ReadPoints.l1 k b N true (a : Int) L last c (cnt : Int) ((cnt - m : Nat) : Int)) res := by
  intro m
  induction m with
  | zero =>
    intro a last L hm ha h0 h1 h2 res h
    simp only [runP, List.append_nil] at h
    exact Ev.step (fun k => by rw [packed_ReadPoints.l1, if_neg (by omega)]) h
  | succ m ih =>
    intro a last L hm ha h0 h1 h2 res h
    have hi : wrap64 (((cnt - (m + 1) : Nat) : Int) + 1) = ((cnt - m : Nat) : Int) := by unfold wrap64; omega
    by_cases hc : 128 ≤ c
    · simp only [hc, decide_true] at h
      by_cases hs : a + 2 ≤ b.length
      · have hv := valP_in hb (two := true) (a := a) (by simpa [szP] using hs)
        have hu := oct_u16 b hb hl a
        rw [if_pos hs] at hu
        have e1 : wrap64 ((a : Int) + 2) = ((a + 2 : Nat) : Int) := by unfold wrap64; omega
        have e2 : wrap64 (last + (256 * rd b (a : Int) + rd b ((a : Int) + 1))) = last + valP b true a := by
          have : valP b true a = 256 * rd b (a : Int) + rd b ((a : Int) + 1) := rfl
          rw [← this]; unfold wrap64; omega
        refine Ev.step (fun k => by rw [packed_ReadPoints.l1, if_pos (by omega), if_pos (by omega), hu, Option.bind_some, if_pos rfl, if_pos (by omega), e1, e2, hi]) ?_
        refine ih (a + 2) (last + valP b true a) (L ++ [last + valP b true a]) (by omega) (by omega) (by omega) (by simp; omega) (by simp; omega) res ?_
        simp only [hc, decide_true]
        simp only [runP, szP, if_pos, if_pos hs] at h
        cases hr : runP b true m (a + 2) (last + valP b true a) with
        | none => rw [hr] at h; simpa using h
        | some r => rw [hr] at h; simpa [List.append_assoc] using h
      · have hu := oct_u16 b hb hl a
        rw [if_neg hs] at hu
        simp only [runP, szP, if_pos, if_neg hs] at h
        subst h
        exact Ev.step (fun k => by rw [packed_ReadPoints.l1, if_pos (by omega), if_pos (by omega), hu, Option.bind_some, if_neg (by simp)]) (Ev.now _)
    · simp only [hc, decide_false] at h
      by_cases hs : a + 1 ≤ b.length
      · have hv := valP_in hb (two := false) (a := a) (by simpa [szP] using hs)
        have hu := oct_u8 b hb hl a
        rw [if_pos (by omega)] at hu
        have e1 : wrap64 ((a : Int) + 1) = ((a + 1 : Nat) : Int) := by unfold wrap64; omega
        have e2 : wrap64 (last + rd b (a : Int)) = last + valP b false a := by
          have : valP b false a = rd b (a : Int) := rfl
          rw [← this]; unfold wrap64; omega
        refine Ev.step (fun k => by rw [packed_ReadPoints.l1, if_pos (by omega), if_neg (by omega), hu, Option.bind_some, if_pos rfl, if_pos (by omega), e1, e2, hi]) ?_
        refine ih (a + 1) (last + valP b false a) (L ++ [last + valP b false a]) (by omega) (by omega) (by omega) (by simp; omega) (by simp; omega) res ?_
        simp only [hc, decide_false]
        simp only [runP, szP, Bool.false_eq_true, if_false, if_pos hs] at h
        cases hr : runP b false m (a + 1) (last + valP b false a) with
        | none => rw [hr] at h; simpa using h
        | some r => rw [hr] at h; simpa [List.append_assoc] using h
      · have hu := oct_u8 b hb hl a
        rw [if_neg (by omega)] at hu
        simp only [runP, szP, Bool.false_eq_true, if_false, if_neg hs] at h
        subst h
        exact Ev.step (fun k => by rw [packed_ReadPoints.l1, if_pos (by omega), if_neg (by omega), hu, Option.bind_some, if_neg (by simp)]) (Ev.now _)
end

theorem cntP_le (c : Int) : 1 ≤ cntP c ∧ cntP c ≤ 128 := by unfold cntP; omega
section
variable {b : List Int} (hb : b.all byteB = true) (hl : b.length ≤ 1000000)
include hb hl
theorem P_all : ∀ (f n a : Nat) (last : Int) (L : List Int), n ≤ f → a ≤ b.length → 0 ≤ last → last ≤ 65535 * (L.length : Int) → L.length + n ≤ 40000 →
    Ev (fun k => packed_ReadPoints.l0 k b ((L.length + n : Nat) : Int) true (a : Int) L last) (endP L (readP b f n a last)) := by
  intro f
  induction f with
  | zero =>
    intro n a last L hn ha h0 h1 h2
    have : n = 0 := by omega
    subst this
    simp only [readP, if_pos, endP, List.append_nil, Nat.add_zero]
    refine Ev.step (fun k => by rw [packed_ReadPoints.l0, if_pos rfl]) (Ev.step (fun k => by rw [packed_ReadPoints.j2, if_neg (by simp), if_pos rfl]) (Ev.bind (P_rising L (by omega)) ?_))
    split <;> exact Ev.now _
  | succ f ih =>
    intro n a last L hn ha h0 h1 h2
    by_cases hz : n = 0
    · subst hz
      simp only [readP, if_pos, endP, List.append_nil, Nat.add_zero]
      refine Ev.step (fun k => by rw [packed_ReadPoints.l0, if_pos rfl]) (Ev.step (fun k => by rw [packed_ReadPoints.j2, if_neg (by simp), if_pos rfl]) (Ev.bind (P_rising L (by omega)) ?_))
      split <;> exact Ev.now _
    · have hu := oct_u8 b hb hl a
      refine Ev.step (fun k => by rw [packed_ReadPoints.l0, if_pos rfl]) ?_
      simp only [readP, if_neg hz]
      by_cases hs : a < b.length
      · rw [if_pos hs] at hu
        have hc := byte_rd hb hs
        have hcn := cntP_le (rd b (a : Int))
        have e1 : wrap64 ((a : Int) + 1) = ((a + 1 : Nat) : Int) := by unfold wrap64; omega
        have e2 : wrap64 (Go.bits .and .i64 (rd b (a : Int)) 127 + 1) = (cntP (rd b (a : Int)) : Int) := by
          rw [and127 _ hc.1 (by omega)]; unfold wrap64 cntP; omega
        have e3 : wrap64 (((L.length + n : Nat) : Int) - (L.length : Int)) = (n : Int) := by unfold wrap64; omega
        refine Ev.step (fun k => by rw [packed_ReadPoints.j2, if_pos (by simp; omega), hu, Option.bind_some, if_pos rfl, e1, e2, e3]) ?_
        rw [if_pos hs]
        by_cases hg : cntP (rd b (a : Int)) ≤ n
        · rw [if_pos hg]
          refine Ev.step (fun k => by rw [packed_ReadPoints.j3, if_neg (by simp; omega)]) ?_
          have := P_run hb hl ((L.length + n : Nat) : Int) (rd b (a : Int)) (cntP (rd b (a : Int))) (by omega) (cntP (rd b (a : Int))) (a + 1) last L (by omega) (by omega) h0 h1 (by omega)
          rw [Nat.sub_self] at this
          refine this _ ?_
          cases hr : runP b (decide (128 ≤ rd b (a : Int))) (cntP (rd b (a : Int))) (a + 1) last with
          | none => rfl
          | some r =>
            have hr1 := runP_len (by omega) hr
            have hr2 := runP_last hb h0 hr
            have hi := ih (n - cntP (rd b (a : Int))) r.2.1 r.2.2 (L ++ r.1) (by omega) hr1.2 hr2.1 (by rw [List.length_append, hr1.1]; omega) (by rw [List.length_append, hr1.1]; omega)
            rw [List.length_append, hr1.1, show L.length + cntP (rd b (a : Int)) + (n - cntP (rd b (a : Int))) = L.length + n by omega] at hi
            simp only []
            have e : endP L ((readP b f (n - cntP (rd b (a : Int))) r.2.1 r.2.2).map fun q => (r.1 ++ q.1, q.2)) = endP (L ++ r.1) (readP b f (n - cntP (rd b (a : Int))) r.2.1 r.2.2) := by
              cases readP b f (n - cntP (rd b (a : Int))) r.2.1 r.2.2 with
              | none => rfl
              | some q => simp [endP, List.append_assoc]
            rw [e]
            exact hi
        · rw [if_neg hg]
          exact Ev.step (f := fun _ => some (endP L none)) (fun k => by rw [packed_ReadPoints.j3, if_pos (by simp; omega)]; rfl) (Ev.now _)
      · rw [if_neg hs] at hu
        rw [if_neg hs]
        refine Ev.step (fun k => by rw [packed_ReadPoints.j2, if_pos (by simp; omega), hu, Option.bind_some, if_neg (by simp)]) ?_
        exact Ev.step (f := fun _ => some (endP L none)) (fun k => by rw [packed_ReadPoints.j3, if_pos rfl]; rfl) (Ev.now _)

omit hb hl in
/-- What ReadPoints tells. -/
def tellP (b : List Int) : List Int × Int × Int :=
  if b.length = 0 then ([], 0, 2)
  else if rd b 0 < 128 then endP [] (readP b (rd b 0).toNat (rd b 0).toNat 1 0)
  else if b.length < 2 then ([], 0, 2)
  else endP [] (readP b ((rd b 0 - 128) * 256 + rd b 1).toNat ((rd b 0 - 128) * 256 + rd b 1).toNat 2 0)
theorem P_tell : Ev (fun k => packed_ReadPoints.f k b) (tellP b) := by
  unfold packed_ReadPoints.f tellP
  have hu := oct_u8 b hb hl 0
  have hw := oct_u16 b hb hl 0
  rw [show ((0 : Nat) : Int) = 0 from rfl] at hu hw
  by_cases h0 : b.length = 0
  · rw [if_neg (by omega)] at hu
    rw [if_pos h0]
    simp only [hu, Option.bind_some]
    refine Ev.congr (fun k => by rw [if_neg (by omega)]) ?_
    refine Ev.step (fun k => by rw [packed_ReadPoints.j0]) (Ev.step (fun k => by rw [packed_ReadPoints.l0, if_neg (by simp)]) (Ev.step (fun k => by rw [packed_ReadPoints.j2, if_neg (by simp), if_neg (by simp)]) (Ev.now _)))
  · rw [if_neg h0]
    rw [if_pos (by omega)] at hu
    have hc := byte_rd hb (show 0 < b.length by omega)
    rw [show ((0 : Nat) : Int) = 0 from rfl] at hc
    simp only [hu, Option.bind_some]
    by_cases h1 : rd b 0 < 128
    · rw [if_pos h1]
      refine Ev.congr (fun k => by rw [if_neg (by omega)]) ?_
      refine Ev.step (fun k => by rw [packed_ReadPoints.j0]) ?_
      have := P_all hb hl (rd b 0).toNat (rd b 0).toNat 1 0 [] (Nat.le_refl _) (by omega) (by omega) (by simp) (by simp; omega)
      rw [List.length_nil, Nat.zero_add, Int.toNat_of_nonneg hc.1] at this
      exact this
    · rw [if_neg h1]
      simp only [if_pos (show rd b 0 ≥ 128 by omega), hw, Option.bind_some]
      by_cases h2 : b.length < 2
      · rw [if_pos h2, if_neg (by omega)]
        exact Ev.step (fun k => by rw [packed_ReadPoints.j0]) (Ev.step (fun k => by rw [packed_ReadPoints.l0, if_neg (by simp)]) (Ev.step (fun k => by rw [packed_ReadPoints.j2, if_neg (by simp), if_neg (by simp)]) (Ev.now _)))
      · rw [if_neg h2, if_pos (by omega)]
        have hd := byte_rd hb (show 1 < b.length by omega)
        rw [show ((1 : Nat) : Int) = 1 from rfl] at hd
        have e : Go.bits .and .i64 (256 * rd b 0 + rd b (0 + 1)) 32767 = (rd b 0 - 128) * 256 + rd b 1 := by
          rw [show (0 : Int) + 1 = 1 from rfl, and32767 _ (by omega) (by omega)]; omega
        refine Ev.step (fun k => by rw [packed_ReadPoints.j0, e]) ?_
        have := P_all hb hl ((rd b 0 - 128) * 256 + rd b 1).toNat ((rd b 0 - 128) * 256 + rd b 1).toNat 2 0 [] (Nat.le_refl _) (by omega) (by omega) (by simp) (by simp; omega)
        rw [List.length_nil, Nat.zero_add, Int.toNat_of_nonneg (by omega)] at this
        exact this
end

theorem sameInts_self (l : List Int) (hl : l.length ≤ 1000000) : Ev (fun k => foundryref06_SameInts.f k l l) true := by
  unfold foundryref06_SameInts.f
  simp only [if_true]
  have main : ∀ n j : Nat, j + n = l.length → Ev (fun k => foundryref06_SameInts.l0 k l l (j : Int)) true := by
    intro n
    induction n with
    | zero => intro j hj; exact Ev.step (fun k => by rw [foundryref06_SameInts.l0, if_neg (by omega)]) (Ev.now _)
    | succ n ih =>
      intro j hj
      have e := Aside0.mk (show wrap64 ((j : Int) + 1) = ((j + 1 : Nat) : Int) by unfold wrap64; omega)
      exact Ev.step (fun k => by rw [foundryref06_SameInts.l0, if_pos (by omega), if_pos (by omega), if_pos (by omega), if_pos rfl, e.out]) (ih (j + 1) (by omega))
  exact main l.length 0 (by omega)
theorem awakeOk : foundrylaw11_awake.f = some true := by decide +kernel
theorem bytes_of {l : List Int} (h : ∀ x ∈ l, (Lit.int .u8 x).wf = true) : l.all byteB = true := List.all_eq_true.2 fun x hx => by
  have := h x hx
  simp [Lit.wf, IntKind.min, IntKind.max, IntKind.bits, IntKind.signed] at this
  simp [byteB]
  omega

theorem readP_len {b : List Int} : ∀ {f n a : Nat} {last : Int} {q : List Int × Nat}, a ≤ b.length → readP b f n a last = some q → q.1.length = n
  | 0, n, a, last, q, ha, h => by
    simp only [readP] at h
    split at h
    · injection h with h; subst h; simp_all
    · cases h
  | f + 1, n, a, last, q, ha, h => by
    simp only [readP] at h
    split at h
    · injection h with h; subst h; simp_all
    · split at h
      · rename_i hs
        split at h
        · rename_i hg
          cases hr : runP b (decide (128 ≤ rd b (a : Int))) (cntP (rd b (a : Int))) (a + 1) last with
          | none => rw [hr] at h; cases h
          | some r =>
            rw [hr] at h
            simp only [] at h
            obtain ⟨t, ht, rfl⟩ := Option.map_eq_some_iff.1 h
            have h1 := runP_len (by omega) hr
            have h2 := readP_len h1.2 ht
            simp only [List.length_append, h1.1, h2]
            omega
        · cases h
      · cases h
theorem endP_len (b : List Int) (f n a : Nat) (last : Int) (ha : a ≤ b.length) : (endP [] (readP b f n a last)).1.length ≤ n := by
  cases h : readP b f n a last with
  | none => simp [endP]
  | some q =>
    have := readP_len ha h
    simp only [endP, List.nil_append]
    split
    · simp only []; omega
    · simp
theorem tellP_len (b : List Int) (hb : b.all byteB = true) : (tellP b).1.length ≤ 40000 := by
  unfold tellP
  split
  · simp
  · rename_i h0
    have hc := byte_rd hb (show 0 < b.length by omega)
    rw [show ((0 : Nat) : Int) = 0 from rfl] at hc
    split
    · exact Nat.le_trans (endP_len _ _ _ _ _ (by omega)) (by omega)
    · split
      · simp
      · have hd := byte_rd hb (show 1 < b.length by omega)
        rw [show ((1 : Nat) : Int) = 1 from rfl] at hd
        exact Nat.le_trans (endP_len _ _ _ _ _ (by omega)) (by omega)

theorem wide01 (x : Int) (h0 : 0 ≤ x) (h1 : x ≤ 65535) : wideOf x = 0 ∨ wideOf x = 1 := by
  rw [wideOf_in x h0 h1]
  split <;> simp

def szC (q : Int) : Nat := if q = 0 then 1 else if q = 1 then 2 else 0
def valC (b : List Int) (q : Int) (a : Nat) : Int :=
  if q = 0 then (if rd b (a : Int) ≥ 128 then rd b (a : Int) - 256 else rd b (a : Int))
  else if q = 1 then (if 256 * rd b (a : Int) + rd b ((a : Int) + 1) ≥ 32768 then 256 * rd b (a : Int) + rd b ((a : Int) + 1) - 65536 else 256 * rd b (a : Int) + rd b ((a : Int) + 1)) else 0
def runC (b : List Int) (q : Int) : Nat → Nat → Option (List Int × Nat)
  | 0, a => some ([], a)
  | m + 1, a => if a + szC q ≤ b.length then (runC b q m (a + szC q)).map (fun r => (valC b q a :: r.1, r.2)) else none
def cntC (c : Int) : Nat := (c % 64).toNat + 1
def readC (b : List Int) : Nat → Nat → Nat → Option (List Int × Nat)
  | 0, n, a => if n = 0 then some ([], a) else none
  | f + 1, n, a => if n = 0 then some ([], a) else if a < b.length ∧ rd b (a : Int) < 192 ∧ cntC (rd b (a : Int)) ≤ n then
      (match runC b (rd b (a : Int) / 64) (cntC (rd b (a : Int))) (a + 1) with
        | none => none
        | some r => (readC b f (n - cntC (rd b (a : Int))) r.2).map fun q => (r.1 ++ q.1, q.2)) else none
def endC (L : List Int) : Option (List Int × Nat) → List Int × Int × Int
  | none => ([], 0, 2)
  | some q => (L ++ q.1, (q.2 : Int), 0)
def tellC (b : List Int) (n : Int) : List Int × Int × Int := if n < 0 ∨ 2000 < n then ([], 0, 4) else endC [] (readC b n.toNat n.toNat 0)

theorem and63 (x : Int) (h0 : 0 ≤ x) (h1 : x < 65536) : Go.bits .and .i64 x 63 = x % 64 := bits_mask .i64 63 (by decide) wraps_i64 6 (by decide) x h0 (by omega)
theorem cntC_le (c : Int) : 1 ≤ cntC c ∧ cntC c ≤ 64 := by unfold cntC; omega
theorem runC_len {b : List Int} {q : Int} : ∀ {m a : Nat} {r : List Int × Nat}, a ≤ b.length → runC b q m a = some r → r.1.length = m ∧ r.2 ≤ b.length
  | 0, a, r, ha, h => by
    simp only [runC, Option.some.injEq] at h
    subst h
    exact ⟨rfl, ha⟩
  | m + 1, a, r, ha, h => by
    simp only [runC] at h
    split at h
    · rename_i hs
      obtain ⟨t, ht, rfl⟩ := Option.map_eq_some_iff.1 h
      have := runC_len hs ht
      exact ⟨by simp [this.1], this.2⟩
    · cases h
theorem oct_i16 (b : List Int) (hb : b.all byteB = true) (hl : b.length ≤ 1000000) (a : Nat) : octets_I16.f b (a : Int) = some (if a + 2 ≤ b.length then (valC b 1 a, true) else (0, false)) := by
  have h := oct_u16 b hb hl a
  unfold octets_U16.f at h
  unfold octets_I16.f
  rw [h]
  by_cases hs : a + 2 ≤ b.length
  · simp only [if_pos hs, Option.map_some, sg, valC, if_true, if_neg (show ¬ (1 : Int) = 0 by omega)]
    congr 1
  · simp only [if_neg hs, Option.map_some, sg]
    rfl
theorem i8_val (v : Int) (h0 : 0 ≤ v) (h1 : v ≤ 255) : wrap64 (IntKind.i8.wrap v) = if v ≥ 128 then v - 256 else v := by
  have : IntKind.i8.wrap v = if v ≥ 128 then v - 256 else v := by
    simp only [IntKind.wrap, IntKind.bits, IntKind.signed]
    simp
    split <;> omega
  rw [this]
  split
  · exact wrapIn _ (by omega) (by omega)
  · exact wrapIn _ (by omega) (by omega)

section
variable {b : List Int} (hb : b.all byteB = true) (hl : b.length ≤ 1000000)
include hb hl
theorem PC_run (N : Int) (c : Int) (hc0 : 0 ≤ c) (hc1 : c < 192) (cnt : Nat) (hcnt : cnt ≤ 1000) : ∀ (m a : Nat) (L : List Int), m ≤ cnt → a ≤ b.length → L.length + m ≤ 40000 → ∀ res,
    (match runC b (c / 64) m a with | none => res = (([] : List Int), (0 : Int), (2 : Int)) | some r => Ev (fun k => packed_ReadChanges.l0 k b N (L ++ r.1) (r.2 : Int)) res) →
    Ev (fun k => packed_ReadChanges.l1 k b N L (a : Int) c true (cnt : Int) ((cnt - m : Nat) : Int)) res := by
  intro m
  induction m with
  | zero =>
    intro a L hm ha h2 res h
    simp only [runC, List.append_nil] at h
    exact Ev.step (fun k => by rw [packed_ReadChanges.l1, if_neg (by omega)]) h
  | succ m ih =>
    intro a L hm ha h2 res h
    have hi := Aside0.mk (show wrap64 (((cnt - (m + 1) : Nat) : Int) + 1) = ((cnt - m : Nat) : Int) by unfold wrap64; omega)
    have hgo := Aside0.mk (fun (s : Nat) (hs : s = szC (c / 64)) (hle : a + s ≤ b.length) => show Ev (fun k => packed_ReadChanges.l1 k b N (L ++ [valC b (c / 64) a]) ((a + s : Nat) : Int) c true (cnt : Int) ((cnt - m : Nat) : Int)) res by
      subst hs
      refine ih (a + szC (c / 64)) (L ++ [valC b (c / 64) a]) (by omega) hle (by simp; omega) res ?_
      simp only [runC, if_pos hle] at h
      cases hr : runC b (c / 64) m (a + szC (c / 64)) with
      | none => rw [hr] at h; simpa using h
      | some r => rw [hr] at h; simpa [List.append_assoc] using h)
    have hno := Aside0.mk (fun (hle : ¬ a + szC (c / 64) ≤ b.length) => show res = (([] : List Int), (0 : Int), (2 : Int)) by
      simp only [runC, if_neg hle] at h
      exact h)
    clear h ih
    obtain hq | hq | hq : c / 64 = 0 ∨ c / 64 = 1 ∨ c / 64 = 2 := by omega
    · have hu := oct_u8 b hb hl a
      have hz : szC (c / 64) = 1 := by rw [hq]; rfl
      by_cases hs : a < b.length
      · rw [if_pos hs] at hu
        have hv := byte_rd hb hs
        have e1 := Aside0.mk (show wrap64 ((a : Int) + 1) = ((a + 1 : Nat) : Int) by unfold wrap64; omega)
        have e2 := Aside0.mk (show wrap64 (IntKind.i8.wrap (rd b (a : Int))) = valC b (c / 64) a by rw [i8_val _ hv.1 hv.2, hq]; rfl)
        exact Ev.step (fun k => by rw [packed_ReadChanges.l1, if_pos (by omega), if_pos hq, hu, Option.bind_some, if_pos rfl, if_pos (by omega), e1.out, e2.out, hi.out]) (hgo.out 1 hz.symm hs)
      · rw [if_neg hs] at hu
        rw [hno.out (by rw [hz]; exact hs)]
        exact Ev.step (fun k => by rw [packed_ReadChanges.l1, if_pos (by omega), if_pos hq, hu, Option.bind_some, if_neg (by simp)]) (Ev.now _)
    · have hu := oct_i16 b hb hl a
      have hz : szC (c / 64) = 2 := by rw [hq]; rfl
      by_cases hs : a + 2 ≤ b.length
      · rw [if_pos hs] at hu
        have e1 := Aside0.mk (show wrap64 ((a : Int) + 2) = ((a + 2 : Nat) : Int) by unfold wrap64; omega)
        have := hgo.out 2 hz.symm hs
        rw [hq] at this
        exact Ev.step (fun k => by rw [packed_ReadChanges.l1, if_pos (by omega), if_neg (by omega), if_pos hq, hu, Option.bind_some, if_pos rfl, if_pos (by omega), e1.out, hi.out]) this
      · rw [if_neg hs] at hu
        rw [hno.out (by rw [hz]; exact hs)]
        exact Ev.step (fun k => by rw [packed_ReadChanges.l1, if_pos (by omega), if_neg (by omega), if_pos hq, hu, Option.bind_some, if_neg (by simp)]) (Ev.now _)
    · have hz : szC (c / 64) = 0 := by rw [hq]; rfl
      have := hgo.out 0 hz.symm (by omega)
      rw [show valC b (c / 64) a = 0 by rw [hq]; rfl, Nat.add_zero] at this
      exact Ev.step (fun k => by rw [packed_ReadChanges.l1, if_pos (by omega), if_neg (by omega), if_neg (by omega), if_pos rfl, if_pos (by omega), hi.out]) this

theorem PC_all : ∀ (f n a : Nat) (L : List Int), n ≤ f → a ≤ b.length → L.length + n ≤ 40000 →
    Ev (fun k => packed_ReadChanges.l0 k b ((L.length + n : Nat) : Int) L (a : Int)) (endC L (readC b f n a)) := by
  intro f
  induction f with
  | zero =>
    intro n a L hn ha h2
    have : n = 0 := by omega
    subst this
    simp only [readC, if_pos, endC, List.append_nil, Nat.add_zero]
    exact Ev.step (fun k => by rw [packed_ReadChanges.l0, if_neg (by omega)]) (Ev.now _)
  | succ f ih =>
    intro n a L hn ha h2
    by_cases hz : n = 0
    · subst hz
      simp only [readC, if_pos, endC, List.append_nil, Nat.add_zero]
      exact Ev.step (fun k => by rw [packed_ReadChanges.l0, if_neg (by omega)]) (Ev.now _)
    · have hu := oct_u8 b hb hl a
      simp only [readC, if_neg hz]
      by_cases hs : a < b.length
      · rw [if_pos hs] at hu
        have hc := byte_rd hb hs
        have hcn := cntC_le (rd b (a : Int))
        have e1 := Aside0.mk (show wrap64 ((a : Int) + 1) = ((a + 1 : Nat) : Int) by unfold wrap64; omega)
        have e2 := Aside0.mk (show wrap64 (Go.bits .and .i64 (rd b (a : Int)) 63 + 1) = (cntC (rd b (a : Int)) : Int) by
          rw [and63 _ hc.1 (by omega)]; unfold wrap64 cntC; omega)
        have e3 := Aside0.mk (show wrap64 (((L.length + n : Nat) : Int) - (L.length : Int)) = (n : Int) by unfold wrap64; omega)
        by_cases h192 : rd b (a : Int) ≥ 192
        · rw [if_neg (by omega)]
          refine Ev.step (fun k => by rw [packed_ReadChanges.l0, if_pos (by omega), hu, Option.bind_some, if_pos rfl, if_pos h192]) ?_
          exact Ev.step (f := fun _ => some (endC L none)) (fun k => by rw [packed_ReadChanges.j2, if_pos rfl]; rfl) (Ev.now _)
        · refine Ev.step (fun k => by rw [packed_ReadChanges.l0, if_pos (by omega), hu, Option.bind_some, if_pos rfl, if_neg h192, e1.out, e2.out, e3.out]) ?_
          by_cases hg : cntC (rd b (a : Int)) ≤ n
          · rw [if_pos ⟨hs, by omega, hg⟩]
            refine Ev.step (fun k => by rw [packed_ReadChanges.j2, if_neg (by simp; omega)]) ?_
            have := PC_run hb hl ((L.length + n : Nat) : Int) (rd b (a : Int)) hc.1 (by omega) (cntC (rd b (a : Int))) (by omega) (cntC (rd b (a : Int))) (a + 1) L (by omega) (by omega) (by omega)
            rw [Nat.sub_self] at this
            refine this _ ?_
            cases hr : runC b (rd b (a : Int) / 64) (cntC (rd b (a : Int))) (a + 1) with
            | none => rfl
            | some r =>
              have hr1 := runC_len (by omega) hr
              have hi := ih (n - cntC (rd b (a : Int))) r.2 (L ++ r.1) (by omega) hr1.2 (by rw [List.length_append, hr1.1]; omega)
              rw [List.length_append, hr1.1, show L.length + cntC (rd b (a : Int)) + (n - cntC (rd b (a : Int))) = L.length + n by omega] at hi
              simp only []
              have e : endC L ((readC b f (n - cntC (rd b (a : Int))) r.2).map fun q => (r.1 ++ q.1, q.2)) = endC (L ++ r.1) (readC b f (n - cntC (rd b (a : Int))) r.2) := by
                cases readC b f (n - cntC (rd b (a : Int))) r.2 with
                | none => rfl
                | some q => simp [endC, List.append_assoc]
              rw [e]
              exact hi
          · rw [if_neg (by omega)]
            exact Ev.step (f := fun _ => some (endC L none)) (fun k => by rw [packed_ReadChanges.j2, if_pos (by simp; omega)]; rfl) (Ev.now _)
      · rw [if_neg hs] at hu
        rw [if_neg (by omega)]
        refine Ev.step (fun k => by rw [packed_ReadChanges.l0, if_pos (by omega), hu, Option.bind_some, if_neg (by simp)]) ?_
        exact Ev.step (f := fun _ => some (endC L none)) (fun k => by rw [packed_ReadChanges.j2, if_pos rfl]; rfl) (Ev.now _)
theorem PC_tell (n : Int) : Ev (fun k => packed_ReadChanges.f k b n) (tellC b n) := by
  unfold packed_ReadChanges.f tellC
  by_cases h0 : n < 0
  · simp only [if_pos h0, if_pos (show n < 0 ∨ 2000 < n from .inl h0)]
    exact Ev.step (fun k => by rw [packed_ReadChanges.j0, if_pos rfl]) (Ev.now _)
  · simp only [if_neg h0]
    by_cases h1 : n > 2000
    · rw [show decide (n > 2000) = true by simpa using h1, if_pos (show n < 0 ∨ 2000 < n from .inr h1)]
      exact Ev.step (fun k => by rw [packed_ReadChanges.j0, if_pos rfl]) (Ev.now _)
    · rw [show decide (n > 2000) = false by simpa using h1, if_neg (show ¬ (n < 0 ∨ 2000 < n) by omega)]
      refine Ev.step (fun k => by rw [packed_ReadChanges.j0, if_neg (by simp)]) ?_
      have := PC_all hb hl n.toNat n.toNat 0 [] (Nat.le_refl _) (by omega) (by simp; omega)
      rw [List.length_nil, Nat.zero_add, Int.toNat_of_nonneg (by omega)] at this
      exact this
end

/-- The running sums. -/
def sums (last : Int) : List Int → List Int
  | [] => []
  | x :: r => (last + x) :: sums (last + x) r
def total (last : Int) : List Int → Int
  | [] => last
  | x :: r => total (last + x) r
theorem sums_append (last : Int) (xs ys : List Int) : sums last (xs ++ ys) = sums last xs ++ sums (total last xs) ys := by
  induction xs generalizing last with
  | nil => rfl
  | cons x xs ih => simp [sums, total, ih]
theorem total_append (last : Int) (xs ys : List Int) : total last (xs ++ ys) = total (total last xs) ys := by
  induction xs generalizing last with
  | nil => rfl
  | cons x xs ih => simp [total, ih]

theorem rd_mid (pre : List Int) (x : Int) (post : List Int) : rd (pre ++ x :: post) (pre.length : Int) = x := by
  simp [rd, List.getD_eq_getElem?_getD]
theorem rd_mid1 (pre : List Int) (x y : Int) (post : List Int) : rd (pre ++ x :: y :: post) ((pre.length : Int) + 1) = y := by
  have := rd_mid (pre ++ [x]) y post
  rw [List.append_assoc, List.length_append] at this
  simpa using this

def bP (two : Bool) : Int → List Int := if two = true then b2 else b1
theorem runP_packed (two : Bool) : ∀ (xs pre post : List Int) (last : Int), (∀ x ∈ xs, 0 ≤ x ∧ x ≤ (if two = true then 65535 else 255)) →
    runP (pre ++ (xs.flatMap (bP two) ++ post)) two xs.length pre.length last = some (sums last xs, pre.length + (xs.flatMap (bP two)).length, total last xs) := by
  intro xs
  induction xs with
  | nil => intro pre post last h; simp [runP, sums, total]
  | cons x xs ih =>
    intro pre post last h
    have hx := h x (by simp)
    have hb : ∃ c, bP two x = c ∧ c.length = szP two ∧ ∀ rest, valP (pre ++ (c ++ rest)) two pre.length = x := by
      refine ⟨_, rfl, ?_, ?_⟩
      · cases two <;> simp [bP, szP, b1, b2]
      · intro rest
        cases two with
        | true =>
          simp only [if_true] at hx
          unfold valP bP b2
          simp only [if_true, List.cons_append, List.nil_append]
          rw [rd_mid, rd_mid1]
          omega
        | false =>
          simp only [Bool.false_eq_true, if_false] at hx
          unfold valP bP b1
          simp only [Bool.false_eq_true, if_false, List.cons_append, List.nil_append]
          rw [rd_mid]
          omega
    obtain ⟨c, hc, hcl, hv⟩ := hb
    rw [List.flatMap_cons, hc, List.length_cons, List.append_assoc]
    simp only [runP]
    rw [hv, if_pos (by simp only [List.length_append, hcl]; omega)]
    have := ih (pre ++ c) post (last + x) (fun y hy => h y (by simp [hy]))
    rw [List.append_assoc, List.length_append, hcl] at this
    rw [this]
    simp [sums, total, hcl, Nat.add_assoc]

theorem encP_two (k : Int) (hk : k = 0 ∨ k = 1) (xs : List Int) : encP k xs = (128 * k + xs.length - 1) :: xs.flatMap (bP (decide (k = 1))) := by
  rcases hk with rfl | rfl <;> rfl

theorem readP_packed : ∀ (n : Nat) (r : List Int) (f : Nat) (pre post : List Int) (last : Int), r.length ≤ n → r.length ≤ f → (∀ x ∈ r, 0 ≤ x ∧ x ≤ 65535) →
    readP (pre ++ (packs wideOf 128 encP r ++ post)) f r.length pre.length last = some (sums last r, pre.length + (packs wideOf 128 encP r).length) := by
  intro n
  induction n with
  | zero =>
    intro r f pre post last hn hf h
    have : r = [] := List.length_eq_zero_iff.1 (by omega)
    subst this
    cases f <;> simp [readP, packs_nil, sums]
  | succ n ih =>
    intro r f pre post last hn hf h
    by_cases hr0 : r = []
    · subst hr0
      cases f <;> simp [readP, packs_nil, sums]
    · have hpos : 0 < r.length := List.length_pos_iff.2 hr0
      obtain ⟨f, rfl⟩ : ∃ f', f = f' + 1 := ⟨f - 1, by omega⟩
      obtain ⟨m, hm⟩ : ∃ m, runLen wideOf 128 r = m := ⟨_, rfl⟩
      have hrun : Run wideOf 128 r m := hm ▸ runLen_run (by omega) hpos
      have h1 := hrun.one
      have h2 := hrun.len
      have h3 := hrun.long
      have hr := h _ (rd_in (l := r) (j := 0) hpos)
      rw [show ((0 : Nat) : Int) = 0 from rfl] at hr
      have hw := wide01 _ hr.1 hr.2
      obtain ⟨K, hK⟩ : ∃ K, wideOf (rd r 0) = K := ⟨_, rfl⟩
      rw [hK] at hw
      have hal : ∀ x ∈ r.take m, wideOf x = K := fun x hx => by
        obtain ⟨i, hi, _, rfl⟩ := mem_take_rd hx
        rw [hrun.alike i hi, hK]
      have htl : (r.take m).length = m := by rw [List.length_take]; omega
      have hrange : ∀ x ∈ r.take m, 0 ≤ x ∧ x ≤ (if decide (K = 1) = true then 65535 else 255) := fun x hx => by
        have hx1 := h x (List.mem_of_mem_take hx)
        have hx2 := hal x hx
        rw [wideOf_in x hx1.1 hx1.2] at hx2
        rcases hw with rfl | rfl
        · simp only [show decide ((0 : Int) = 1) = false by decide, Bool.false_eq_true, if_false]
          split at hx2 <;> omega
        · simp; omega
      rw [packs_step (by omega) hrun, hK, encP_two K hw, htl]
      obtain ⟨X, hX⟩ : ∃ X, (r.take m).flatMap (bP (decide (K = 1))) = X := ⟨_, rfl⟩
      obtain ⟨P, hP⟩ : ∃ P, packs wideOf 128 encP (r.drop m) = P := ⟨_, rfl⟩
      rw [hX, hP]
      have hb : pre ++ ((128 * K + (m : Int) - 1) :: X ++ P ++ post) = pre ++ (128 * K + (m : Int) - 1) :: (X ++ (P ++ post)) := by simp
      rw [hb]
      simp only [readP]
      rw [if_neg (by omega), rd_mid, if_pos (by simp)]
      have hcnt : cntP (128 * K + (m : Int) - 1) = m := by unfold cntP; rcases hw with rfl | rfl <;> omega
      have htwo : decide (128 ≤ 128 * K + (m : Int) - 1) = decide (K = 1) := by
        rcases hw with rfl | rfl
        · simp; omega
        · simp; omega
      rw [hcnt, htwo, if_pos (by omega)]
      have hrp := runP_packed (decide (K = 1)) (r.take m) (pre ++ [128 * K + (m : Int) - 1]) (P ++ post) last hrange
      rw [hX, htl, List.length_append, List.append_assoc, show [128 * K + (m : Int) - 1].length = 1 from rfl] at hrp
      simp only [List.cons_append, List.nil_append] at hrp
      rw [hrp]
      simp only []
      have hih := ih (r.drop m) f (pre ++ (128 * K + (m : Int) - 1) :: X) post (total last (r.take m)) (by rw [List.length_drop]; omega) (by rw [List.length_drop]; omega) (fun x hx => h x (List.mem_of_mem_drop hx))
      rw [hP, List.length_drop, List.append_assoc, List.length_append, List.length_cons] at hih
      simp only [List.cons_append] at hih
      rw [show pre.length + 1 + X.length = pre.length + (X.length + 1) by omega, hih]
      simp only [Option.map_some, ← sums_append, List.take_append_drop, List.length_append, List.length_cons]
      congr 2
      omega

theorem sums_steps_aux (l : List Int) : ∀ (n j : Nat), j + n = l.length → sums (if j = 0 then 0 else rd l ((j - 1 : Nat) : Int)) ((stepsOf l).drop j) = l.drop j := by
  intro n
  induction n with
  | zero =>
    intro j hj
    rw [List.drop_eq_nil_of_le (by rw [stepsOf_len]; omega), List.drop_eq_nil_of_le (by omega)]
    rfl
  | succ n ih =>
    intro j hj
    have hlt : j < l.length := by omega
    have hi := ih (j + 1) (by omega)
    rw [if_neg (by omega), Nat.add_sub_cancel] at hi
    rw [List.drop_eq_getElem_cons (by rw [stepsOf_len]; exact hlt), List.drop_eq_getElem_cons hlt]
    have e1 : (stepsOf l)[j]'(by rw [stepsOf_len]; exact hlt) = stepAt l j := by simp [stepsOf]
    have e2 : l[j] = rd l (j : Int) := by simp [rd, hlt]
    rw [e1, e2]
    simp only [sums]
    have e3 : (if j = 0 then 0 else rd l ((j - 1 : Nat) : Int)) + stepAt l j = rd l (j : Int) := by
      unfold stepAt
      split
      · simp
      · omega
    rw [e3, hi]
theorem sums_steps (l : List Int) : sums 0 (stepsOf l) = l := by
  have := sums_steps_aux l l.length 0 (by omega)
  simpa using this

def packP (l : List Int) : List Int := hdrP l.length ++ packs wideOf 128 encP (stepsOf l)
theorem back_points (l more : List Int) (hr : risingB l = true) : tellP (packP l ++ more) = (l, ((packP l).length : Int), 0) := by
  have hl2 : l.length ≤ 2000 := by simp only [risingB, Bool.and_eq_true, decide_eq_true_eq] at hr; exact hr.2
  have hs := steps_in hr
  unfold tellP packP hdrP
  by_cases h128 : l.length < 128
  · rw [if_pos h128]
    have hb := readP_packed (stepsOf l).length (stepsOf l) (stepsOf l).length [(l.length : Int)] more 0 (Nat.le_refl _) (Nat.le_refl _) hs
    rw [stepsOf_len, List.length_singleton] at hb
    simp only [List.cons_append, List.nil_append] at hb ⊢
    have h0 : rd ((l.length : Int) :: (packs wideOf 128 encP (stepsOf l) ++ more)) 0 = (l.length : Int) := rfl
    rw [if_neg (by simp), h0, if_pos (by omega), Int.toNat_natCast, hb, sums_steps]
    simp only [endP, List.nil_append, hr, if_true, List.length_cons]
    congr 2
    omega
  · rw [if_neg h128]
    have hb := readP_packed (stepsOf l).length (stepsOf l) (stepsOf l).length [128 + (l.length : Int) / 256, (l.length : Int) % 256] more 0 (Nat.le_refl _) (Nat.le_refl _) hs
    rw [stepsOf_len, show [128 + (l.length : Int) / 256, (l.length : Int) % 256].length = 2 from rfl] at hb
    simp only [List.cons_append, List.nil_append] at hb ⊢
    obtain ⟨B, hB⟩ : ∃ B, (128 + (l.length : Int) / 256) :: (l.length : Int) % 256 :: (packs wideOf 128 encP (stepsOf l) ++ more) = B := ⟨_, rfl⟩
    have h0 : rd B 0 = 128 + (l.length : Int) / 256 := by rw [← hB]; rfl
    have h1 : rd B 1 = (l.length : Int) % 256 := by rw [← hB]; rfl
    have hBl : 2 ≤ B.length := by rw [← hB]; simp
    rw [hB] at hb
    rw [hB, if_neg (by omega), h0, if_neg (by omega), if_neg (by omega), h1, show ((128 + (l.length : Int) / 256 - 128) * 256 + (l.length : Int) % 256).toNat = l.length by omega, hb, sums_steps]
    simp only [endP, List.nil_append, hr, if_true, List.length_cons]
    congr 2
    omega

/-! Changes. -/
def bQ (q : Int) : Int → List Int := if q = 0 then b1 else if q = 1 then b2 else b0
def inQ (q x : Int) : Prop := if q = 0 then -128 ≤ x ∧ x ≤ 127 else if q = 1 then -32768 ≤ x ∧ x ≤ 32767 else x = 0
theorem runC_packed (q : Int) (hq : q = 0 ∨ q = 1 ∨ q = 2) : ∀ (xs pre post : List Int), (∀ x ∈ xs, inQ q x) →
    runC (pre ++ (xs.flatMap (bQ q) ++ post)) q xs.length pre.length = some (xs, pre.length + (xs.flatMap (bQ q)).length) := by
  intro xs
  induction xs with
  | nil => intro pre post h; simp [runC]
  | cons x xs ih =>
    intro pre post h
    have hx := h x (by simp)
    have hb : ∃ c, bQ q x = c ∧ c.length = szC q ∧ ∀ rest, valC (pre ++ (c ++ rest)) q pre.length = x := by
      refine ⟨_, rfl, ?_, ?_⟩
      · rcases hq with rfl | rfl | rfl <;> rfl
      · intro rest
        rcases hq with rfl | rfl | rfl
        · simp only [inQ, if_true] at hx
          unfold valC bQ b1
          simp only [if_true, List.cons_append, List.nil_append]
          rw [rd_mid]
          split <;> omega
        · simp only [inQ, if_neg (show ¬ (1 : Int) = 0 by omega), if_true] at hx
          unfold valC bQ b2
          simp only [if_neg (show ¬ (1 : Int) = 0 by omega), if_true, List.cons_append, List.nil_append]
          rw [rd_mid, rd_mid1]
          split <;> omega
        · simp only [inQ, if_neg (show ¬ (2 : Int) = 0 by omega), if_neg (show ¬ (2 : Int) = 1 by omega)] at hx
          subst hx
          rfl
    obtain ⟨c, hc, hcl, hv⟩ := hb
    rw [List.flatMap_cons, hc, List.length_cons, List.append_assoc]
    simp only [runC]
    rw [hv, if_pos (by simp only [List.length_append, hcl]; omega)]
    have := ih (pre ++ c) post (fun y hy => h y (by simp [hy]))
    rw [List.append_assoc, List.length_append, hcl] at this
    rw [this]
    simp [hcl, Nat.add_assoc]
theorem encC_Q (k : Int) (xs : List Int) : encC k xs = (64 * k + xs.length - 1) :: xs.flatMap (bQ k) := rfl
theorem kind3 (x : Int) : kindOf x = 0 ∨ kindOf x = 1 ∨ kindOf x = 2 := by have := kindOf_cases x; omega
theorem readC_packed : ∀ (n : Nat) (r : List Int) (f : Nat) (pre post : List Int), r.length ≤ n → r.length ≤ f → (∀ x ∈ r, -32768 ≤ x ∧ x ≤ 32767) →
    readC (pre ++ (packs kindOf 64 encC r ++ post)) f r.length pre.length = some (r, pre.length + (packs kindOf 64 encC r).length) := by
  intro n
  induction n with
  | zero =>
    intro r f pre post hn hf h
    have : r = [] := List.length_eq_zero_iff.1 (by omega)
    subst this
    cases f <;> simp [readC, packs_nil]
  | succ n ih =>
    intro r f pre post hn hf h
    by_cases hr0 : r = []
    · subst hr0
      cases f <;> simp [readC, packs_nil]
    · have hpos : 0 < r.length := List.length_pos_iff.2 hr0
      obtain ⟨f, rfl⟩ : ∃ f', f = f' + 1 := ⟨f - 1, by omega⟩
      obtain ⟨m, hm⟩ : ∃ m, runLen kindOf 64 r = m := ⟨_, rfl⟩
      have hrun : Run kindOf 64 r m := hm ▸ runLen_run (by omega) hpos
      have h1 := hrun.one
      have h2 := hrun.len
      have h3 := hrun.long
      obtain ⟨K, hK⟩ : ∃ K, kindOf (rd r 0) = K := ⟨_, rfl⟩
      have hw : K = 0 ∨ K = 1 ∨ K = 2 := hK ▸ kind3 _
      have hal : ∀ x ∈ r.take m, kindOf x = K := fun x hx => by
        obtain ⟨i, hi, _, rfl⟩ := mem_take_rd hx
        rw [hrun.alike i hi, hK]
      have htl : (r.take m).length = m := by rw [List.length_take]; omega
      have hrange : ∀ x ∈ r.take m, inQ K x := fun x hx => by
        have hx1 := h x (List.mem_of_mem_take hx)
        have hx2 := hal x hx
        have hx3 := kindOf_cases x
        unfold inQ
        split
        · omega
        · split <;> omega
      rw [packs_step (by omega) hrun, hK, encC_Q K, htl]
      obtain ⟨X, hX⟩ : ∃ X, (r.take m).flatMap (bQ K) = X := ⟨_, rfl⟩
      obtain ⟨P, hP⟩ : ∃ P, packs kindOf 64 encC (r.drop m) = P := ⟨_, rfl⟩
      rw [hX, hP]
      have hb : pre ++ ((64 * K + (m : Int) - 1) :: X ++ P ++ post) = pre ++ (64 * K + (m : Int) - 1) :: (X ++ (P ++ post)) := by simp
      rw [hb]
      simp only [readC]
      have hcnt : cntC (64 * K + (m : Int) - 1) = m := by unfold cntC; rcases hw with rfl | rfl | rfl <;> omega
      have hq : (64 * K + (m : Int) - 1) / 64 = K := by omega
      rw [if_neg (by omega), rd_mid, hcnt, hq, if_pos ⟨by simp, by omega, by omega⟩]
      have hrp := runC_packed K hw (r.take m) (pre ++ [64 * K + (m : Int) - 1]) (P ++ post) hrange
      rw [hX, htl, List.length_append, List.append_assoc, show [64 * K + (m : Int) - 1].length = 1 from rfl] at hrp
      simp only [List.cons_append, List.nil_append] at hrp
      rw [hrp]
      simp only []
      have hih := ih (r.drop m) f (pre ++ (64 * K + (m : Int) - 1) :: X) post (by rw [List.length_drop]; omega) (by rw [List.length_drop]; omega) (fun x hx => h x (List.mem_of_mem_drop hx))
      rw [hP, List.length_drop, List.append_assoc, List.length_append, List.length_cons] at hih
      simp only [List.cons_append] at hih
      rw [show pre.length + 1 + X.length = pre.length + (X.length + 1) by omega, hih]
      simp only [Option.map_some, List.take_append_drop, List.length_append, List.length_cons]
      congr 2
      omega
theorem back_changes (l more : List Int) (hin : l.all inC = true) (hl : l.length ≤ 2000) : tellC (packs kindOf 64 encC l ++ more) (l.length : Int) = (l, ((packs kindOf 64 encC l).length : Int), 0) := by
  have hb := readC_packed l.length l l.length [] more (Nat.le_refl _) (Nat.le_refl _) (fun x hx => by have := List.all_eq_true.1 hin x hx; simpa [inC] using this)
  rw [List.nil_append, List.length_nil, Nat.zero_add] at hb
  unfold tellC
  rw [if_neg (by omega), Int.toNat_natCast, hb]
  rfl

end Go.Proofs.Ytmppdgjnibamlaa.Pure
