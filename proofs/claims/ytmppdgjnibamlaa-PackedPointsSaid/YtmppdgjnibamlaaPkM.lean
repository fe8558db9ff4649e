/- Readers of one and two bytes, plain; how point numbers are read. -/
import Derived.Test.YtmppdgjnibamlaaPPkx5
import Derived.Test.YtmppdgjnibamlaaPPkx6
namespace Go.Proofs.Ytmppdgjnibamlaa.Pure
open Go.RowKit Go.Proofs.Ytmppdgjnibamlaa.PPk Go.Proofs.YtmppdgjnibamlaaW.PrintWords Go.Proofs.YtmppdgjnibamlaaW.PrintLast Go.Proofs.Ytmppdgjnibamlaa.Pag
set_option linter.unusedVariables false
set_option linter.unusedSimpArgs false

theorem wrapIn (x : Int) (h0 : -9223372036854775808 ≤ x) (h1 : x ≤ 9223372036854775807) : wrap64 x = x := by unfold wrap64; omega
theorem take1 (b : List Int) (a : Nat) (h : a < b.length) : (b.drop a).take 1 = [rd b (a : Int)] := by
  rw [List.drop_eq_getElem_cons h]
  show [b[a]] = _
  simp [rd, h]
theorem take2 (b : List Int) (a : Nat) (h : a + 1 < b.length) : (b.drop a).take 2 = [rd b (a : Int), rd b ((a : Int) + 1)] := by
  rw [List.drop_eq_getElem_cons (by omega), List.drop_eq_getElem_cons (by omega)]
  have e : ((a : Int) + 1).toNat = a + 1 := by omega
  show [b[a], b[a + 1]] = _
  simp [rd, h, show a < b.length by omega, e]
theorem oct_u8 (b : List Int) (hb : b.all byteB = true) (hl : b.length ≤ 1000000) (a : Nat) : octets_U8.f b (a : Int) = some (if a < b.length then (rd b (a : Int), true) else (0, false)) := by
  unfold octets_U8.f octets_field.f
  rw [if_pos ⟨hb, by omega, by omega⟩]
  by_cases h : a < b.length
  · rw [if_neg (by omega), if_pos h, Int.toNat_natCast, show (1 : Int).toNat = 1 from rfl, take1 b a h]
    simp [numBE]
  · rw [if_pos (by omega), if_neg h]
theorem oct_u16 (b : List Int) (hb : b.all byteB = true) (hl : b.length ≤ 1000000) (a : Nat) : octets_U16.f b (a : Int) = some (if a + 2 ≤ b.length then (256 * rd b (a : Int) + rd b ((a : Int) + 1), true) else (0, false)) := by
  unfold octets_U16.f octets_field.f
  rw [if_pos ⟨hb, by omega, by omega⟩]
  by_cases h : a + 2 ≤ b.length
  · rw [if_neg (by omega), if_pos h, Int.toNat_natCast, show (2 : Int).toNat = 2 from rfl, take2 b a (by omega)]
    simp [numBE]
  · rw [if_pos (by omega), if_neg h]
theorem byte_rd {b : List Int} (hb : b.all byteB = true) {a : Nat} (h : a < b.length) : 0 ≤ rd b (a : Int) ∧ rd b (a : Int) ≤ 255 := by
  have := List.all_eq_true.1 hb _ (rd_in h)
  simpa [byteB] using this
theorem byte_rd1 {b : List Int} (hb : b.all byteB = true) {a : Nat} (h : a + 1 < b.length) : 0 ≤ rd b ((a : Int) + 1) ∧ rd b ((a : Int) + 1) ≤ 255 := by
  have := byte_rd hb h
  rwa [show (((a + 1 : Nat)) : Int) = (a : Int) + 1 by omega] at this

theorem ref_u8 (b : List Int) (hb : b.all byteB = true) (hl : b.length ≤ 1000000) (a : Nat) (ha : a ≤ 2000000) : Ev (fun k => foundryref04_U8.f k b (a : Int)) (if a < b.length then (rd b (a : Int), true) else (0, false)) := by
  unfold foundryref04_U8.f foundryref04_number.f
  simp only [if_neg (show ¬ (a : Int) < 0 by omega)]
  by_cases h0 : (b.length : Int) < 1
  · simp only [if_pos h0, if_neg (show ¬ a < b.length by omega)]
    exact Ev.bind (a := (0, false)) (Ev.step (fun k => by rw [foundryref04_number.j0, if_pos rfl]) (Ev.now _)) (Ev.now _)
  · simp only [if_neg h0]
    rw [wrapIn _ (by omega) (by omega)]
    by_cases h : a < b.length
    · have r := byte_rd hb h
      simp only [if_pos h]
      have e0 : wrap64 ((a : Int) + 0) = (a : Int) := by unfold wrap64; omega
      have e1 : wrap64 (wrap64 (256 * 0) + wrap64 (rd b (a : Int))) = rd b (a : Int) := by unfold wrap64; omega
      have e2 : wrap64 ((0 : Int) + 1) = 1 := by unfold wrap64; omega
      refine Ev.bind (a := (rd b (a : Int), true)) (Ev.step (fun k => by rw [foundryref04_number.j0, if_neg (by simp; omega)]) (Ev.step (fun k => by rw [foundryref04_number.l0, if_pos (by omega), e0, if_pos (by omega), if_pos (by omega), e1, e2]) (Ev.step (fun k => by rw [foundryref04_number.l0, if_neg (by omega)]) ?_))) (Ev.now _)
      exact Ev.now _
    · simp only [if_neg h]
      exact Ev.bind (a := (0, false)) (Ev.step (fun k => by rw [foundryref04_number.j0, if_pos (by simp; omega)]) (Ev.now _)) (Ev.now _)
theorem ref_u16 (b : List Int) (hb : b.all byteB = true) (hl : b.length ≤ 1000000) (a : Nat) (ha : a ≤ 2000000) : Ev (fun k => foundryref04_U16.f k b (a : Int)) (if a + 2 ≤ b.length then (256 * rd b (a : Int) + rd b ((a : Int) + 1), true) else (0, false)) := by
  unfold foundryref04_U16.f foundryref04_number.f
  simp only [if_neg (show ¬ (a : Int) < 0 by omega)]
  by_cases h0 : (b.length : Int) < 2
  · simp only [if_pos h0, if_neg (show ¬ a + 2 ≤ b.length by omega)]
    exact Ev.bind (a := (0, false)) (Ev.step (fun k => by rw [foundryref04_number.j0, if_pos rfl]) (Ev.now _)) (Ev.now _)
  · simp only [if_neg h0]
    rw [wrapIn _ (by omega) (by omega)]
    by_cases h : a + 2 ≤ b.length
    · have r := byte_rd hb (show a < b.length by omega)
      have r2 := byte_rd1 hb (show a + 1 < b.length by omega)
      simp only [if_pos h]
      have e0 : wrap64 ((a : Int) + 0) = (a : Int) := by unfold wrap64; omega
      have e1 : wrap64 (wrap64 (256 * 0) + wrap64 (rd b (a : Int))) = rd b (a : Int) := by unfold wrap64; omega
      have e2 : wrap64 ((0 : Int) + 1) = 1 := by unfold wrap64; omega
      have e3 : wrap64 ((a : Int) + 1) = (a : Int) + 1 := by unfold wrap64; omega
      have e4 : wrap64 (wrap64 (256 * rd b (a : Int)) + wrap64 (rd b ((a : Int) + 1))) = 256 * rd b (a : Int) + rd b ((a : Int) + 1) := by unfold wrap64; omega
      have e5 : wrap64 ((1 : Int) + 1) = 2 := by unfold wrap64; omega
      refine Ev.bind (a := (256 * rd b (a : Int) + rd b ((a : Int) + 1), true)) (Ev.step (fun k => by rw [foundryref04_number.j0, if_neg (by simp; omega)]) (Ev.step (fun k => by rw [foundryref04_number.l0, if_pos (by omega), e0, if_pos (by omega), if_pos (by omega), e1, e2])
        (Ev.step (fun k => by rw [foundryref04_number.l0, if_pos (by omega), e3, if_pos (by omega), if_pos (by omega), e4, e5]) (Ev.step (fun k => by rw [foundryref04_number.l0, if_neg (by omega)]) ?_)))) (Ev.now _)
      exact Ev.now _
    · simp only [if_neg h]
      exact Ev.bind (a := (0, false)) (Ev.step (fun k => by rw [foundryref04_number.j0, if_pos (by simp; omega)]) (Ev.now _)) (Ev.now _)
end Go.Proofs.Ytmppdgjnibamlaa.Pure

/-! Point numbers are read alike by both. -/
namespace Go.Proofs.Ytmppdgjnibamlaa.Pure
open Go.RowKit Go.Proofs.Ytmppdgjnibamlaa.PPk Go.Proofs.YtmppdgjnibamlaaW.PrintWords Go.Proofs.YtmppdgjnibamlaaW.PrintLast Go.Proofs.Ytmppdgjnibamlaa.Pag
set_option linter.unusedVariables false
set_option linter.unusedSimpArgs false

def szP (two : Bool) : Nat := if two = true then 2 else 1
def valP (b : List Int) (two : Bool) (a : Nat) : Int := if two = true then 256 * rd b (a : Int) + rd b ((a : Int) + 1) else rd b (a : Int)
def runP (b : List Int) (two : Bool) : Nat → Nat → Int → Option (List Int × Nat × Int)
  | 0, a, last => some ([], a, last)
  | m + 1, a, last => if a + szP two ≤ b.length then (runP b two m (a + szP two) (last + valP b two a)).map (fun r => ((last + valP b two a) :: r.1, r.2.1, r.2.2)) else none
def cntP (c : Int) : Nat := (c % 128).toNat + 1
def readP (b : List Int) : Nat → Nat → Nat → Int → Option (List Int × Nat)
  | 0, n, a, last => if n = 0 then some ([], a) else none
  | f + 1, n, a, last => if n = 0 then some ([], a) else if a < b.length then (if cntP (rd b (a : Int)) ≤ n then
      (match runP b (decide (128 ≤ rd b (a : Int))) (cntP (rd b (a : Int))) (a + 1) last with
        | none => none
        | some r => (readP b f (n - cntP (rd b (a : Int))) r.2.1 r.2.2).map fun q => (r.1 ++ q.1, q.2)) else none) else none
def endP (L : List Int) : Option (List Int × Nat) → List Int × Int × Int
  | none => ([], 0, 2)
  | some q => if risingB (L ++ q.1) = true then (L ++ q.1, (q.2 : Int), 0) else ([], 0, 2)

theorem and127 (x : Int) (h0 : 0 ≤ x) (h1 : x < 65536) : Go.bits .and .i64 x 127 = x % 128 := bits_mask .i64 63 (by decide) wraps_i64 7 (by decide) x h0 (by omega)
theorem and32767 (x : Int) (h0 : 0 ≤ x) (h1 : x < 65536) : Go.bits .and .i64 x 32767 = x % 32768 := bits_mask .i64 63 (by decide) wraps_i64 15 (by decide) x h0 (by omega)

theorem runP_len {b : List Int} {two : Bool} : ∀ {m a : Nat} {last : Int} {r : List Int × Nat × Int}, a ≤ b.length → runP b two m a last = some r → r.1.length = m ∧ r.2.1 ≤ b.length
  | 0, a, last, r, ha, h => by
    simp only [runP, Option.some.injEq] at h
    subst h
    exact ⟨rfl, ha⟩
  | m + 1, a, last, r, ha, h => by
    simp only [runP] at h
    split at h
    · rename_i hs
      obtain ⟨q, hq, rfl⟩ := Option.map_eq_some_iff.1 h
      have := runP_len hs hq
      exact ⟨by simp [this.1], this.2⟩
    · cases h
theorem valP_in {b : List Int} (hb : b.all byteB = true) {two : Bool} {a : Nat} (h : a + szP two ≤ b.length) : 0 ≤ valP b two a ∧ valP b two a ≤ 65535 := by
  unfold valP
  cases two with
  | true =>
    simp only [szP, if_pos] at h ⊢
    have h1 := byte_rd hb (show a < b.length by omega)
    have h2 := byte_rd1 hb (show a + 1 < b.length by omega)
    omega
  | false =>
    simp [szP] at h ⊢
    have h1 := byte_rd hb (show a < b.length by omega)
    omega
theorem runP_last {b : List Int} (hb : b.all byteB = true) {two : Bool} : ∀ {m a : Nat} {last : Int} {r : List Int × Nat × Int}, 0 ≤ last → runP b two m a last = some r → 0 ≤ r.2.2 ∧ r.2.2 ≤ last + 65535 * m
  | 0, a, last, r, hl, h => by
    simp only [runP, Option.some.injEq] at h
    subst h
    exact ⟨hl, by simp⟩
  | m + 1, a, last, r, hl, h => by
    simp only [runP] at h
    split at h
    · rename_i hs
      obtain ⟨q, hq, rfl⟩ := Option.map_eq_some_iff.1 h
      have hv := valP_in hb hs
      have := runP_last hb (by omega) hq
      refine ⟨this.1, Int.le_trans this.2 ?_⟩
      rw [Int.natCast_add]
      omega
    · cases h

theorem P_rising (l : List Int) (hl : l.length ≤ 1000000) : Ev (fun k => packed_rising.f k l) (risingB l) := by
  unfold packed_rising.f
  have main : ∀ n j : Nat, j + n = l.length → (∀ i, i < j → upAt l i = true) → Ev (fun k => packed_rising.l0 k l (before l j) l (l.length : Int) (j : Int)) (risingB l) := by
    intro n
    induction n with
    | zero =>
      intro j hj hu
      refine Ev.step (fun k => by rw [packed_rising.l0, if_neg (by omega)]) ?_
      have : risingB l = decide ((l.length : Int) ≤ 2000) := by
        unfold risingB
        rw [List.all_eq_true.2 (fun i hi => hu i (by rw [List.mem_range] at hi; omega)), Bool.true_and]
        congr 1; simp; omega
      rw [this]
      exact Ev.now _
    | succ n ih =>
      intro j hj hu
      have hlt : j < l.length := by omega
      by_cases h1 : rd l (j : Int) ≤ before l j
      · refine Ev.step (fun k => by rw [packed_rising.l0, if_pos (by omega), if_pos (by omega), if_pos (by omega), if_pos h1]) ?_
        have : risingB l = false := by
          unfold risingB
          rw [Bool.and_eq_false_iff]; left
          rw [Bool.eq_false_iff]
          intro h
          have := List.all_eq_true.1 h j (by simpa using hlt)
          simp [upAt] at this
          omega
        rw [this]
        exact Ev.now _
      · by_cases h2 : rd l (j : Int) > 65535
        · refine Ev.step (fun k => by rw [packed_rising.l0, if_pos (by omega), if_pos (by omega), if_pos (by omega), if_neg h1, if_pos h2]) ?_
          have : risingB l = false := by
            unfold risingB
            rw [Bool.and_eq_false_iff]; left
            rw [Bool.eq_false_iff]
            intro h
            have := List.all_eq_true.1 h j (by simpa using hlt)
            simp [upAt] at this
            omega
          rw [this]
          exact Ev.now _
        · refine Ev.step (fun k => by rw [packed_rising.l0, if_pos (by omega), if_pos (by omega), if_pos (by omega), if_neg h1, if_neg h2, wrapIn _ (by omega) (by omega)]) ?_
          have := ih (j + 1) (by omega) (fun i hi => by
            rcases Nat.lt_or_ge i j with h | h
            · exact hu i h
            · rw [show i = j by omega]; simp [upAt]; omega)
          rw [show before l (j + 1) = rd l (j : Int) by simp [before], show (((j + 1 : Nat)) : Int) = (j : Int) + 1 by omega] at this
          exact this
  exact main l.length 0 (by omega) (fun i hi => by omega)

section
variable {b : List Int} (hb : b.all byteB = true) (hl : b.length ≤ 1000000)
include hb hl
theorem P_run (N : Int) (c : Int) (cnt : Nat) (hcnt : cnt ≤ 1000) : ∀ (m a : Nat) (last : Int) (L : List Int), m ≤ cnt → a ≤ b.length → 0 ≤ last → last ≤ 65535 * (L.length : Int) → L.length + m ≤ 40000 → ∀ res,
    (match runP b (decide (128 ≤ c)) m a last with | none => res = (([] : List Int), (0 : Int), (2 : Int)) | some r => Ev (fun k => packed_ReadPoints.l0 k b N true (r.2.1 : Int) (L ++ r.1) r.2.2) res) →
    Ev (fun k => packed_ReadPoints.l1 k b N true (a : Int) L last c (cnt : Int) ((cnt - m : Nat) : Int)) res := by
  intro m
  induction m with
  | zero =>
    intro a last L hm ha h0 h1 h2 res h
    simp only [runP, List.append_nil] at h
    exact Ev.step (fun k => by rw [packed_ReadPoints.l1, if_neg (by omega)]) h
  | succ m ih =>
    intro a last L hm ha h0 h1 h2 res h
    have hi : wrap64 (((cnt - (m + 1) : Nat) : Int) + 1) = ((cnt - m : Nat) : Int) := by unfold wrap64; omega
    by_cases hc : 128 ≤ c
    · simp only [hc, decide_true] at h
      by_cases hs : a + 2 ≤ b.length
      · have hv := valP_in hb (two := true) (a := a) (by simpa [szP] using hs)
        have hu := oct_u16 b hb hl a
        rw [if_pos hs] at hu
        have e1 : wrap64 ((a : Int) + 2) = ((a + 2 : Nat) : Int) := by unfold wrap64; omega
        have e2 : wrap64 (last + (256 * rd b (a : Int) + rd b ((a : Int) + 1))) = last + valP b true a := by
          have : valP b true a = 256 * rd b (a : Int) + rd b ((a : Int) + 1) := rfl
          rw [← this]; unfold wrap64; omega
        refine Ev.step (fun k => by rw [packed_ReadPoints.l1, if_pos (by omega), if_pos (by omega), hu, Option.bind_some, if_pos rfl, if_pos (by omega), e1, e2, hi]) ?_
        refine ih (a + 2) (last + valP b true a) (L ++ [last + valP b true a]) (by omega) (by omega) (by omega) (by simp; omega) (by simp; omega) res ?_
        simp only [hc, decide_true]
        simp only [runP, szP, if_pos, if_pos hs] at h
        cases hr : runP b true m (a + 2) (last + valP b true a) with
        | none => rw [hr] at h; simpa using h
        | some r => rw [hr] at h; simpa [List.append_assoc] using h
      · have hu := oct_u16 b hb hl a
        rw [if_neg hs] at hu
        simp only [runP, szP, if_pos, if_neg hs] at h
        subst h
        exact Ev.step (fun k => by rw [packed_ReadPoints.l1, if_pos (by omega), if_pos (by omega), hu, Option.bind_some, if_neg (by simp)]) (Ev.now _)
    · simp only [hc, decide_false] at h
      by_cases hs : a + 1 ≤ b.length
      · have hv := valP_in hb (two := false) (a := a) (by simpa [szP] using hs)
        have hu := oct_u8 b hb hl a
        rw [if_pos (by omega)] at hu
        have e1 : wrap64 ((a : Int) + 1) = ((a + 1 : Nat) : Int) := by unfold wrap64; omega
        have e2 : wrap64 (last + rd b (a : Int)) = last + valP b false a := by
          have : valP b false a = rd b (a : Int) := rfl
          rw [← this]; unfold wrap64; omega
        refine Ev.step (fun k => by rw [packed_ReadPoints.l1, if_pos (by omega), if_neg (by omega), hu, Option.bind_some, if_pos rfl, if_pos (by omega), e1, e2, hi]) ?_
        refine ih (a + 1) (last + valP b false a) (L ++ [last + valP b false a]) (by omega) (by omega) (by omega) (by simp; omega) (by simp; omega) res ?_
        simp only [hc, decide_false]
        simp only [runP, szP, Bool.false_eq_true, if_false, if_pos hs] at h
        cases hr : runP b false m (a + 1) (last + valP b false a) with
        | none => rw [hr] at h; simpa using h
        | some r => rw [hr] at h; simpa [List.append_assoc] using h
      · have hu := oct_u8 b hb hl a
        rw [if_neg (by omega)] at hu
        simp only [runP, szP, Bool.false_eq_true, if_false, if_neg hs] at h
        subst h
        exact Ev.step (fun k => by rw [packed_ReadPoints.l1, if_pos (by omega), if_neg (by omega), hu, Option.bind_some, if_neg (by simp)]) (Ev.now _)
end
end Go.Proofs.Ytmppdgjnibamlaa.Pure

/-! packed.ReadPoints, plain. -/
namespace Go.Proofs.Ytmppdgjnibamlaa.Pure
open Go.RowKit Go.Proofs.Ytmppdgjnibamlaa.PPk Go.Proofs.YtmppdgjnibamlaaW.PrintWords Go.Proofs.YtmppdgjnibamlaaW.PrintLast Go.Proofs.Ytmppdgjnibamlaa.Pag
set_option linter.unusedVariables false
set_option linter.unusedSimpArgs false

theorem cntP_le (c : Int) : 1 ≤ cntP c ∧ cntP c ≤ 128 := by unfold cntP; omega
section
variable {b : List Int} (hb : b.all byteB = true) (hl : b.length ≤ 1000000)
include hb hl
theorem P_all : ∀ (f n a : Nat) (last : Int) (L : List Int), n ≤ f → a ≤ b.length → 0 ≤ last → last ≤ 65535 * (L.length : Int) → L.length + n ≤ 40000 →
    Ev (fun k => packed_ReadPoints.l0 k b ((L.length + n : Nat) : Int) true (a : Int) L last) (endP L (readP b f n a last)) := by
  intro f
  induction f with
  | zero =>
    intro n a last L hn ha h0 h1 h2
    have : n = 0 := by omega
    subst this
    simp only [readP, if_pos, endP, List.append_nil, Nat.add_zero]
    refine Ev.step (fun k => by rw [packed_ReadPoints.l0, if_pos rfl]) (Ev.step (fun k => by rw [packed_ReadPoints.j2, if_neg (by simp), if_pos rfl]) (Ev.bind (P_rising L (by omega)) ?_))
    split <;> exact Ev.now _
  | succ f ih =>
    intro n a last L hn ha h0 h1 h2
    by_cases hz : n = 0
    · subst hz
      simp only [readP, if_pos, endP, List.append_nil, Nat.add_zero]
      refine Ev.step (fun k => by rw [packed_ReadPoints.l0, if_pos rfl]) (Ev.step (fun k => by rw [packed_ReadPoints.j2, if_neg (by simp), if_pos rfl]) (Ev.bind (P_rising L (by omega)) ?_))
      split <;> exact Ev.now _
    · have hu := oct_u8 b hb hl a
      refine Ev.step (fun k => by rw [packed_ReadPoints.l0, if_pos rfl]) ?_
      simp only [readP, if_neg hz]
      by_cases hs : a < b.length
      · rw [if_pos hs] at hu
        have hc := byte_rd hb hs
        have hcn := cntP_le (rd b (a : Int))
        have e1 : wrap64 ((a : Int) + 1) = ((a + 1 : Nat) : Int) := by unfold wrap64; omega
        have e2 : wrap64 (Go.bits .and .i64 (rd b (a : Int)) 127 + 1) = (cntP (rd b (a : Int)) : Int) := by
          rw [and127 _ hc.1 (by omega)]; unfold wrap64 cntP; omega
        have e3 : wrap64 (((L.length + n : Nat) : Int) - (L.length : Int)) = (n : Int) := by unfold wrap64; omega
        refine Ev.step (fun k => by rw [packed_ReadPoints.j2, if_pos (by simp; omega), hu, Option.bind_some, if_pos rfl, e1, e2, e3]) ?_
        rw [if_pos hs]
        by_cases hg : cntP (rd b (a : Int)) ≤ n
        · rw [if_pos hg]
          refine Ev.step (fun k => by rw [packed_ReadPoints.j3, if_neg (by simp; omega)]) ?_
          have := P_run hb hl ((L.length + n : Nat) : Int) (rd b (a : Int)) (cntP (rd b (a : Int))) (by omega) (cntP (rd b (a : Int))) (a + 1) last L (by omega) (by omega) h0 h1 (by omega)
          rw [Nat.sub_self] at this
          refine this _ ?_
          cases hr : runP b (decide (128 ≤ rd b (a : Int))) (cntP (rd b (a : Int))) (a + 1) last with
          | none => rfl
          | some r =>
            have hr1 := runP_len (by omega) hr
            have hr2 := runP_last hb h0 hr
            have hi := ih (n - cntP (rd b (a : Int))) r.2.1 r.2.2 (L ++ r.1) (by omega) hr1.2 hr2.1 (by rw [List.length_append, hr1.1]; omega) (by rw [List.length_append, hr1.1]; omega)
            rw [List.length_append, hr1.1, show L.length + cntP (rd b (a : Int)) + (n - cntP (rd b (a : Int))) = L.length + n by omega] at hi
            simp only []
            have e : endP L ((readP b f (n - cntP (rd b (a : Int))) r.2.1 r.2.2).map fun q => (r.1 ++ q.1, q.2)) = endP (L ++ r.1) (readP b f (n - cntP (rd b (a : Int))) r.2.1 r.2.2) := by
              cases readP b f (n - cntP (rd b (a : Int))) r.2.1 r.2.2 with
              | none => rfl
              | some q => simp [endP, List.append_assoc]
            rw [e]
            exact hi
        · rw [if_neg hg]
          exact Ev.step (f := fun _ => some (endP L none)) (fun k => by rw [packed_ReadPoints.j3, if_pos (by simp; omega)]; rfl) (Ev.now _)
      · rw [if_neg hs] at hu
        rw [if_neg hs]
        refine Ev.step (fun k => by rw [packed_ReadPoints.j2, if_pos (by simp; omega), hu, Option.bind_some, if_neg (by simp)]) ?_
        exact Ev.step (f := fun _ => some (endP L none)) (fun k => by rw [packed_ReadPoints.j3, if_pos rfl]; rfl) (Ev.now _)

omit hb hl in
/-- What ReadPoints tells. -/
def tellP (b : List Int) : List Int × Int × Int :=
  if b.length = 0 then ([], 0, 2)
  else if rd b 0 < 128 then endP [] (readP b (rd b 0).toNat (rd b 0).toNat 1 0)
  else if b.length < 2 then ([], 0, 2)
  else endP [] (readP b ((rd b 0 - 128) * 256 + rd b 1).toNat ((rd b 0 - 128) * 256 + rd b 1).toNat 2 0)
theorem P_tell : Ev (fun k => packed_ReadPoints.f k b) (tellP b) := by
  unfold packed_ReadPoints.f tellP
  have hu := oct_u8 b hb hl 0
  have hw := oct_u16 b hb hl 0
  rw [show ((0 : Nat) : Int) = 0 from rfl] at hu hw
  by_cases h0 : b.length = 0
  · rw [if_neg (by omega)] at hu
    rw [if_pos h0]
    simp only [hu, Option.bind_some]
    refine Ev.congr (fun k => by rw [if_neg (by omega)]) ?_
    refine Ev.step (fun k => by rw [packed_ReadPoints.j0]) (Ev.step (fun k => by rw [packed_ReadPoints.l0, if_neg (by simp)]) (Ev.step (fun k => by rw [packed_ReadPoints.j2, if_neg (by simp), if_neg (by simp)]) (Ev.now _)))
  · rw [if_neg h0]
    rw [if_pos (by omega)] at hu
    have hc := byte_rd hb (show 0 < b.length by omega)
    rw [show ((0 : Nat) : Int) = 0 from rfl] at hc
    simp only [hu, Option.bind_some]
    by_cases h1 : rd b 0 < 128
    · rw [if_pos h1]
      refine Ev.congr (fun k => by rw [if_neg (by omega)]) ?_
      refine Ev.step (fun k => by rw [packed_ReadPoints.j0]) ?_
      have := P_all hb hl (rd b 0).toNat (rd b 0).toNat 1 0 [] (Nat.le_refl _) (by omega) (by omega) (by simp) (by simp; omega)
      rw [List.length_nil, Nat.zero_add, Int.toNat_of_nonneg hc.1] at this
      exact this
    · rw [if_neg h1]
      simp only [if_pos (show rd b 0 ≥ 128 by omega), hw, Option.bind_some]
      by_cases h2 : b.length < 2
      · rw [if_pos h2, if_neg (by omega)]
        exact Ev.step (fun k => by rw [packed_ReadPoints.j0]) (Ev.step (fun k => by rw [packed_ReadPoints.l0, if_neg (by simp)]) (Ev.step (fun k => by rw [packed_ReadPoints.j2, if_neg (by simp), if_neg (by simp)]) (Ev.now _)))
      · rw [if_neg h2, if_pos (by omega)]
        have hd := byte_rd hb (show 1 < b.length by omega)
        rw [show ((1 : Nat) : Int) = 1 from rfl] at hd
        have e : Go.bits .and .i64 (256 * rd b 0 + rd b (0 + 1)) 32767 = (rd b 0 - 128) * 256 + rd b 1 := by
          rw [show (0 : Int) + 1 = 1 from rfl, and32767 _ (by omega) (by omega)]; omega
        refine Ev.step (fun k => by rw [packed_ReadPoints.j0, e]) ?_
        have := P_all hb hl ((rd b 0 - 128) * 256 + rd b 1).toNat ((rd b 0 - 128) * 256 + rd b 1).toNat 2 0 [] (Nat.le_refl _) (by omega) (by omega) (by simp) (by simp; omega)
        rw [List.length_nil, Nat.zero_add, Int.toNat_of_nonneg (by omega)] at this
        exact this
end
end Go.Proofs.Ytmppdgjnibamlaa.Pure

/-! foundryref11.ReadPoints, plain. -/
namespace Go.Proofs.Ytmppdgjnibamlaa.Pure
open Go.RowKit Go.Proofs.Ytmppdgjnibamlaa.PPk Go.Proofs.YtmppdgjnibamlaaW.PrintWords Go.Proofs.YtmppdgjnibamlaaW.PrintLast Go.Proofs.Ytmppdgjnibamlaa.Pag
set_option linter.unusedVariables false
set_option linter.unusedSimpArgs false

theorem up_nonneg {l : List Int} {j : Nat} (h : ∀ i, i < j → upAt l i = true) : ∀ i : Nat, i < j → 0 ≤ rd l (i : Int)
  | 0, hi => by
    have := h 0 hi
    simp only [upAt, before, if_pos, Bool.and_eq_true, decide_eq_true_eq] at this
    omega
  | i + 1, hi => by
    have h1 := h (i + 1) hi
    have h2 := up_nonneg h i (by omega)
    simp only [upAt, before, if_neg (Nat.succ_ne_zero i), Nat.add_sub_cancel, Bool.and_eq_true, decide_eq_true_eq] at h1
    omega
theorem notRising {l : List Int} {j : Nat} (hj : j < l.length) (h : upAt l j = false) : risingB l = false := by
  unfold risingB
  rw [Bool.and_eq_false_iff]; left
  rw [Bool.eq_false_iff]
  intro h2
  have := List.all_eq_true.1 h2 j (by simpa using hj)
  rw [this] at h
  cases h
theorem R_rising (l : List Int) (hl : l.length ≤ 1000000) : Ev (fun k => foundryref11_points.f k l) (risingB l) := by
  unfold foundryref11_points.f
  have main : ∀ n j : Nat, j + n = l.length → (∀ i, i < j → upAt l i = true) → Ev (fun k => foundryref11_points.l0 k l (j : Int)) (risingB l) := by
    intro n
    induction n with
    | zero =>
      intro j hj hu
      refine Ev.step (fun k => by rw [foundryref11_points.l0, if_neg (by omega)]) ?_
      have : risingB l = decide ((l.length : Int) ≤ 2000) := by
        unfold risingB
        rw [List.all_eq_true.2 (fun i hi => hu i (by rw [List.mem_range] at hi; omega)), Bool.true_and]
        congr 1; simp; omega
      rw [this]
      exact Ev.now _
    | succ n ih =>
      intro j hj hu
      have hlt : j < l.length := by omega
      have hnn := up_nonneg hu
      by_cases h1 : rd l (j : Int) < 0
      · refine Ev.step (fun k => by rw [foundryref11_points.l0, if_pos (by omega), if_pos (by omega), if_pos h1]) ?_
        have : upAt l j = false := by
          unfold upAt before
          split
          · simp; omega
          · have := hnn (j - 1) (by omega)
            simp; omega
        rw [notRising hlt this]
        exact Ev.now _
      · by_cases h2 : rd l (j : Int) > 65535
        · refine Ev.step (fun k => by rw [foundryref11_points.l0, if_pos (by omega), if_pos (by omega), if_neg h1, if_pos h2]) ?_
          have : upAt l j = false := by simp [upAt]; omega
          rw [notRising hlt this]
          exact Ev.now _
        · by_cases hj0 : j = 0
          · refine Ev.step (fun k => by rw [foundryref11_points.l0, if_pos (by omega), if_pos (by omega), if_neg h1, if_neg h2, if_neg (by omega), wrapIn _ (by omega) (by omega)]) ?_
            have := ih (j + 1) (by omega) (fun i hi => by
              rw [show i = j by omega]; unfold upAt before; rw [if_pos hj0]; simp; omega)
            rw [show (((j + 1 : Nat)) : Int) = (j : Int) + 1 by omega] at this
            exact this
          · have e : wrap64 ((j : Int) - 1) = ((j - 1 : Nat) : Int) := by unfold wrap64; omega
            by_cases h3 : rd l (j : Int) ≤ rd l ((j - 1 : Nat) : Int)
            · refine Ev.step (fun k => by rw [foundryref11_points.l0, if_pos (by omega), if_pos (by omega), if_neg h1, if_neg h2, if_pos (by omega), e, if_pos (by omega), if_pos (by omega), if_pos h3]) ?_
              have : upAt l j = false := by unfold upAt before; rw [if_neg hj0]; simp; omega
              rw [notRising hlt this]
              exact Ev.now _
            · refine Ev.step (fun k => by rw [foundryref11_points.l0, if_pos (by omega), if_pos (by omega), if_neg h1, if_neg h2, if_pos (by omega), e, if_pos (by omega), if_pos (by omega), if_neg h3, wrapIn _ (by omega) (by omega)]) ?_
              have := ih (j + 1) (by omega) (fun i hi => by
                rcases Nat.lt_or_ge i j with h | h
                · exact hu i h
                · rw [show i = j by omega]; unfold upAt before; rw [if_neg hj0]; simp; omega)
              rw [show (((j + 1 : Nat)) : Int) = (j : Int) + 1 by omega] at this
              exact this
  exact main l.length 0 (by omega) (fun i hi => by omega)

/-- Once it isn't fine any more. -/
theorem R_bad (b : List Int) (N a : Int) (L : List Int) (last : Int) : Ev (fun k => foundryref11_ReadPoints.l0 k b N false a L last) (([] : List Int), (0 : Int), (2 : Int)) := by
  refine Ev.step (f := fun k => foundryref11_ReadPoints.j2 k b N false a L last false) (fun k => by rw [foundryref11_ReadPoints.l0]; split <;> rfl) ?_
  exact Ev.step (fun k => by rw [foundryref11_ReadPoints.j2, if_neg (by simp), if_neg (by simp)]) (Ev.now _)
theorem R_bad1 (b : List Int) (N a : Int) (L : List Int) (last c cnt i : Int) : Ev (fun k => foundryref11_ReadPoints.l1 k b N false a L last c cnt i) (([] : List Int), (0 : Int), (2 : Int)) := by
  refine Ev.step (f := fun k => foundryref11_ReadPoints.j5 k b N false a L last c cnt i false) (fun k => by rw [foundryref11_ReadPoints.l1]; split <;> rfl) ?_
  exact Ev.step (fun k => by rw [foundryref11_ReadPoints.j5, if_neg (by simp)]) (R_bad b N a L last)

section
variable {b : List Int} (hb : b.all byteB = true) (hl : b.length ≤ 1000000)
include hb hl
theorem R_run (N : Int) (c : Int) (hc0 : 0 ≤ c) (hc1 : c ≤ 255) (cnt : Nat) (hcnt : cnt ≤ 1000) : ∀ (m a : Nat) (last : Int) (L : List Int), m ≤ cnt → a ≤ b.length → 0 ≤ last → last ≤ 65535 * (L.length : Int) → L.length + m ≤ 40000 → ∀ res,
    (match runP b (decide (128 ≤ c)) m a last with | none => res = (([] : List Int), (0 : Int), (2 : Int)) | some r => Ev (fun k => foundryref11_ReadPoints.l0 k b N true (r.2.1 : Int) (L ++ r.1) r.2.2) res) →
    Ev (fun k => foundryref11_ReadPoints.l1 k b N true (a : Int) L last c (cnt : Int) ((cnt - m : Nat) : Int)) res := by
  intro m
  induction m with
  | zero =>
    intro a last L hm ha h0 h1 h2 res h
    simp only [runP, List.append_nil] at h
    exact Ev.step (fun k => by rw [foundryref11_ReadPoints.l1, if_neg (by omega)]) (Ev.step (fun k => by rw [foundryref11_ReadPoints.j5, if_neg (by simp)]) h)
  | succ m ih =>
    intro a last L hm ha h0 h1 h2 res h
    have hi : wrap64 (((cnt - (m + 1) : Nat) : Int) + 1) = ((cnt - m : Nat) : Int) := by unfold wrap64; omega
    have hLL : (L.length < 17592186044416) = True := eq_true (by omega)
    refine Ev.step (fun k => by rw [foundryref11_ReadPoints.l1, if_pos (by omega)]) ?_
    have hu := ref_u8 b hb hl a (by omega)
    by_cases hc : 128 ≤ c
    · have hsz : wrap64 (1 + wrap64 (c.tdiv 128)) = 2 := by rw [Int.tdiv_eq_ediv_of_nonneg hc0]; unfold wrap64; omega
      have hw := ref_u16 b hb hl a (by omega)
      simp only [hc, decide_true] at h
      refine Ev.step (fun k => by rw [foundryref11_ReadPoints.j5, if_pos rfl, hsz]) (Ev.bind hu ?_)
      clear hsz
      simp only [if_pos]
      refine Ev.bind hw ?_
      have e1 : wrap64 ((a : Int) + 2) = ((a + 2 : Nat) : Int) := by unfold wrap64; omega
      by_cases hs : a + 2 ≤ b.length
      · have hv := valP_in hb (two := true) (a := a) (by simpa [szP] using hs)
        have e2 : wrap64 (last + (256 * rd b (a : Int) + rd b ((a : Int) + 1))) = last + valP b true a := by
          have : valP b true a = 256 * rd b (a : Int) + rd b ((a : Int) + 1) := rfl
          rw [← this]; unfold wrap64; omega
        have hal : (a + 2 ≤ b.length) = True := eq_true hs
        simp only [hal, hLL, if_true, e1, e2, hi]
        refine ih (a + 2) (last + valP b true a) (L ++ [last + valP b true a]) (by omega) (by omega) (by omega) (by simp; omega) (by simp; omega) res ?_
        simp only [hc, decide_true]
        simp only [runP, szP, if_pos, if_pos hs] at h
        cases hr : runP b true m (a + 2) (last + valP b true a) with
        | none => rw [hr] at h; simpa using h
        | some r => rw [hr] at h; simpa [List.append_assoc] using h
      · simp only [runP, szP, if_pos, if_neg hs] at h
        subst h
        have hal : (a + 2 ≤ b.length) = False := eq_false hs
        simp only [hal, hLL, if_true, if_false]
        exact R_bad1 _ _ _ _ _ _ _ _
    · have hsz : wrap64 (1 + wrap64 (c.tdiv 128)) = 1 := by rw [Int.tdiv_eq_ediv_of_nonneg hc0]; unfold wrap64; omega
      simp only [hc, decide_false] at h
      refine Ev.step (fun k => by rw [foundryref11_ReadPoints.j5, if_pos rfl, hsz]) (Ev.bind hu ?_)
      clear hsz
      simp only [if_neg (show ¬ (1 : Int) = 2 by omega)]
      have e1 : wrap64 ((a : Int) + 1) = ((a + 1 : Nat) : Int) := by unfold wrap64; omega
      by_cases hs : a + 1 ≤ b.length
      · have hv := valP_in hb (two := false) (a := a) (by simpa [szP] using hs)
        have e2 : wrap64 (last + rd b (a : Int)) = last + valP b false a := by
          have : valP b false a = rd b (a : Int) := rfl
          rw [← this]; unfold wrap64; omega
        have hal : (a < b.length) = True := eq_true hs
        simp only [hal, hLL, if_true, e1, e2, hi]
        refine ih (a + 1) (last + valP b false a) (L ++ [last + valP b false a]) (by omega) (by omega) (by omega) (by simp; omega) (by simp; omega) res ?_
        simp only [hc, decide_false]
        simp only [runP, szP, Bool.false_eq_true, if_false, if_pos hs] at h
        cases hr : runP b false m (a + 1) (last + valP b false a) with
        | none => rw [hr] at h; simpa using h
        | some r => rw [hr] at h; simpa [List.append_assoc] using h
      · simp only [runP, szP, Bool.false_eq_true, if_false, if_neg hs] at h
        subst h
        have hal : (a < b.length) = False := eq_false hs
        simp only [hal, hLL, if_true, if_false]
        exact R_bad1 _ _ _ _ _ _ _ _

theorem R_all : ∀ (f n a : Nat) (last : Int) (L : List Int), n ≤ f → a ≤ b.length → 0 ≤ last → last ≤ 65535 * (L.length : Int) → L.length + n ≤ 40000 →
    Ev (fun k => foundryref11_ReadPoints.l0 k b ((L.length + n : Nat) : Int) true (a : Int) L last) (endP L (readP b f n a last)) := by
  intro f
  induction f with
  | zero =>
    intro n a last L hn ha h0 h1 h2
    have : n = 0 := by omega
    subst this
    simp only [readP, if_pos, endP, List.append_nil, Nat.add_zero]
    refine Ev.step (fun k => by rw [foundryref11_ReadPoints.l0, if_neg (by omega)]) (Ev.step (fun k => by rw [foundryref11_ReadPoints.j2, if_neg (by simp), if_pos rfl]) (Ev.bind (R_rising L (by omega)) ?_))
    split <;> exact Ev.now _
  | succ f ih =>
    intro n a last L hn ha h0 h1 h2
    by_cases hz : n = 0
    · subst hz
      simp only [readP, if_pos, endP, List.append_nil, Nat.add_zero]
      refine Ev.step (fun k => by rw [foundryref11_ReadPoints.l0, if_neg (by omega)]) (Ev.step (fun k => by rw [foundryref11_ReadPoints.j2, if_neg (by simp), if_pos rfl]) (Ev.bind (R_rising L (by omega)) ?_))
      split <;> exact Ev.now _
    · have hu := ref_u8 b hb hl a (by omega)
      refine Ev.step (fun k => by rw [foundryref11_ReadPoints.l0, if_pos (by omega)]) ?_
      simp only [readP, if_neg hz]
      refine Ev.step (fun k => by rw [foundryref11_ReadPoints.j2, if_pos rfl]) (Ev.bind hu ?_)
      by_cases hs : a < b.length
      · simp only [if_pos hs]
        have hc := byte_rd hb hs
        have hcn := cntP_le (rd b (a : Int))
        have e1 : wrap64 ((a : Int) + 1) = ((a + 1 : Nat) : Int) := by unfold wrap64; omega
        have e2 : wrap64 ((rd b (a : Int)).tmod 128 + 1) = (cntP (rd b (a : Int)) : Int) := by
          rw [Int.tmod_eq_emod_of_nonneg hc.1]; unfold wrap64 cntP; omega
        have e3 : wrap64 (((L.length + n : Nat) : Int) - (L.length : Int)) = (n : Int) := by unfold wrap64; omega
        simp only [if_true, e1, e2, e3]
        by_cases hg : cntP (rd b (a : Int)) ≤ n
        · simp only [if_pos hg]
          rw [show decide ((cntP (rd b (a : Int)) : Int) ≤ (n : Int)) = true by simp; omega]
          refine Ev.step (fun k => by rw [foundryref11_ReadPoints.j3]) ?_
          have := R_run hb hl ((L.length + n : Nat) : Int) (rd b (a : Int)) hc.1 hc.2 (cntP (rd b (a : Int))) (by omega) (cntP (rd b (a : Int))) (a + 1) last L (by omega) (by omega) h0 h1 (by omega)
          rw [Nat.sub_self] at this
          refine this _ ?_
          cases hr : runP b (decide (128 ≤ rd b (a : Int))) (cntP (rd b (a : Int))) (a + 1) last with
          | none => rfl
          | some r =>
            have hr1 := runP_len (by omega) hr
            have hr2 := runP_last hb h0 hr
            have hi := ih (n - cntP (rd b (a : Int))) r.2.1 r.2.2 (L ++ r.1) (by omega) hr1.2 hr2.1 (by rw [List.length_append, hr1.1]; omega) (by rw [List.length_append, hr1.1]; omega)
            rw [List.length_append, hr1.1, show L.length + cntP (rd b (a : Int)) + (n - cntP (rd b (a : Int))) = L.length + n by omega] at hi
            simp only []
            have e : endP L ((readP b f (n - cntP (rd b (a : Int))) r.2.1 r.2.2).map fun q => (r.1 ++ q.1, q.2)) = endP (L ++ r.1) (readP b f (n - cntP (rd b (a : Int))) r.2.1 r.2.2) := by
              cases readP b f (n - cntP (rd b (a : Int))) r.2.1 r.2.2 with
              | none => rfl
              | some q => simp [endP, List.append_assoc]
            rw [e]
            exact hi
        · simp only [if_neg hg]
          rw [show decide ((cntP (rd b (a : Int)) : Int) ≤ (n : Int)) = false by simp; omega]
          exact Ev.step (fun k => by rw [foundryref11_ReadPoints.j3]) (R_bad1 _ _ _ _ _ _ _ _)
      · simp only [if_neg hs, Bool.false_eq_true, if_false]
        exact Ev.step (fun k => by rw [foundryref11_ReadPoints.j3]) (R_bad1 _ _ _ _ _ _ _ _)

theorem R_tell : Ev (fun k => foundryref11_ReadPoints.f k b) (tellP b) := by
  unfold foundryref11_ReadPoints.f tellP
  have hu := ref_u8 b hb hl 0 (by omega)
  have hw := ref_u8 b hb hl 1 (by omega)
  rw [show ((0 : Nat) : Int) = 0 from rfl] at hu
  rw [show ((1 : Nat) : Int) = 1 from rfl] at hw
  refine Ev.bind hu ?_
  by_cases h0 : b.length = 0
  · simp only [if_neg (show ¬ 0 < b.length by omega), if_pos h0, if_neg (show ¬ (0 : Int) ≥ 128 by omega)]
    exact Ev.step (fun k => by rw [foundryref11_ReadPoints.j0]) (R_bad _ _ _ _ _)
  · have hc := byte_rd hb (show 0 < b.length by omega)
    rw [show ((0 : Nat) : Int) = 0 from rfl] at hc
    simp only [if_neg h0, if_pos (show 0 < b.length by omega)]
    by_cases h1 : rd b 0 < 128
    · simp only [if_pos h1, if_neg (show ¬ rd b 0 ≥ 128 by omega)]
      refine Ev.step (fun k => by rw [foundryref11_ReadPoints.j0]) ?_
      have := R_all hb hl (rd b 0).toNat (rd b 0).toNat 1 0 [] (Nat.le_refl _) (by omega) (by omega) (by simp) (by simp; omega)
      rw [List.length_nil, Nat.zero_add, Int.toNat_of_nonneg hc.1] at this
      exact this
    · simp only [if_neg h1, if_pos (show rd b 0 ≥ 128 by omega)]
      refine Ev.bind hw ?_
      by_cases h2 : b.length < 2
      · simp only [if_pos h2, if_neg (show ¬ 1 < b.length by omega)]
        exact Ev.step (fun k => by rw [foundryref11_ReadPoints.j0]) (R_bad _ _ _ _ _)
      · have hd := byte_rd hb (show 1 < b.length by omega)
        rw [show ((1 : Nat) : Int) = 1 from rfl] at hd
        have e : wrap64 (wrap64 (wrap64 (rd b 0 - 128) * 256) + rd b 1) = (rd b 0 - 128) * 256 + rd b 1 := by unfold wrap64; omega
        simp only [if_neg h2, if_pos (show 1 < b.length by omega), e]
        refine Ev.step (fun k => by rw [foundryref11_ReadPoints.j0]) ?_
        have := R_all hb hl ((rd b 0 - 128) * 256 + rd b 1).toNat ((rd b 0 - 128) * 256 + rd b 1).toNat 2 0 [] (Nat.le_refl _) (by omega) (by omega) (by simp) (by simp; omega)
        rw [List.length_nil, Nat.zero_add, Int.toNat_of_nonneg (by omega)] at this
        exact this
end
end Go.Proofs.Ytmppdgjnibamlaa.Pure

/-! foundryref11.Points, plain. -/
namespace Go.Proofs.Ytmppdgjnibamlaa.Pure
open Go.RowKit Go.Proofs.Ytmppdgjnibamlaa.PPk Go.Proofs.YtmppdgjnibamlaaW.PrintWords Go.Proofs.YtmppdgjnibamlaaW.PrintLast Go.Proofs.Ytmppdgjnibamlaa.Pag
set_option linter.unusedVariables false
set_option linter.unusedSimpArgs false

theorem big1 (x : Int) (h0 : 0 ≤ x) (h1 : x ≤ 65535) : Ev (fun k => foundryref04_Big.f k x 1) (b1 x) := by
  unfold foundryref04_Big.f
  simp only [if_pos (show (0 : Int) ≤ 1 by omega), if_pos (show (1 : Int).toNat ≤ 281474976710656 by decide)]
  rw [show (1 : Int).toNat = 1 from rfl, (show wrap64 (1 - 1) = 0 by unfold wrap64; omega)]
  have e : (x.tmod 256) % 256 = x % 256 := by rw [Int.tmod_eq_emod_of_nonneg h0]; omega
  refine Ev.step (fun k => by rw [foundryref04_Big.l0, if_pos (by omega), if_pos (by omega), if_pos (by simp), e, (show wrap64 (0 - 1) = -1 by unfold wrap64; omega)]) (Ev.step (fun k => by rw [foundryref04_Big.l0, if_neg (by omega)]) ?_)
  exact Ev.now _
theorem big2 (x : Int) (h0 : 0 ≤ x) (h1 : x ≤ 65535) : Ev (fun k => foundryref04_Big.f k x 2) (b2 x) := by
  unfold foundryref04_Big.f
  simp only [if_pos (show (0 : Int) ≤ 2 by omega), if_pos (show (2 : Int).toNat ≤ 281474976710656 by decide)]
  rw [show (2 : Int).toNat = 2 from rfl, (show wrap64 (2 - 1) = 1 by unfold wrap64; omega)]
  have e : (x.tmod 256) % 256 = x % 256 := by rw [Int.tmod_eq_emod_of_nonneg h0]; omega
  have e2 := Aside0.mk (show wrap64 (x.tdiv 256) = x / 256 by rw [Int.tdiv_eq_ediv_of_nonneg h0]; unfold wrap64; omega)
  have e3 : ((x / 256).tmod 256) % 256 = x / 256 % 256 := by rw [Int.tmod_eq_emod_of_nonneg (by omega)]; omega
  refine Ev.step (fun k => by rw [foundryref04_Big.l0, if_pos (by omega), if_pos (by omega), if_pos (by simp), e, e2.out, (show wrap64 (1 - 1) = 0 by unfold wrap64; omega)]) (Ev.step (fun k => by rw [foundryref04_Big.l0, if_pos (by omega), if_pos (by omega), if_pos (by simp), e3, (show wrap64 (0 - 1) = -1 by unfold wrap64; omega)]) (Ev.step (fun k => by rw [foundryref04_Big.l0, if_neg (by omega)]) ?_))
  exact Ev.now _
theorem ref_wide (x : Int) (h0 : 0 ≤ x) (h1 : x ≤ 65535) : foundryref11_wide.f x = some (wideOf x) := by
  rw [wideOf_in x h0 h1]
  unfold foundryref11_wide.f
  by_cases h : x > 255
  · rw [if_pos h, if_pos (by omega)]
  · rw [if_neg h, if_neg (by omega)]
theorem wide01 (x : Int) (h0 : 0 ≤ x) (h1 : x ≤ 65535) : wideOf x = 0 ∨ wideOf x = 1 := by
  rw [wideOf_in x h0 h1]
  split <;> simp

theorem hdr_wrap (w i e n : Int) (hw : w = 0 ∨ w = 1) (hi0 : 0 ≤ i) (hi1 : i ≤ 1000000) (he : e = i + n) (hn0 : 1 ≤ n) (hn1 : n ≤ 128) : wrap64 (wrap64 (wrap64 (wrap64 (128 * w) + e) - i) - 1) % 256 = 128 * w + n - 1 := by
  subst he
  rw [wrapIn (128 * w) (by omega) (by omega), wrapIn (128 * w + (i + n)) (by omega) (by omega), wrapIn (128 * w + (i + n) - i) (by omega) (by omega), wrapIn (128 * w + (i + n) - i - 1) (by omega) (by omega)]
  omega
theorem rd_drop (d : List Int) (i j : Nat) : rd (d.drop i) (j : Int) = rd d ((i + j : Nat) : Int) := by
  unfold rd
  rw [Int.toNat_natCast, Int.toNat_natCast]
  simp [List.getD_eq_getElem?_getD]

section
variable {d : List Int} (hd : ∀ x ∈ d, 0 ≤ x ∧ x ≤ 65535) (hl : d.length ≤ 100000)
include hd hl
theorem W_run (i n : Nat) (hin : i + n ≤ d.length) (hn : 1 ≤ n) : ∀ (m : Nat) (B : List Int), m ≤ n → B.length ≤ 1000000 + 2 * (n - m) → ∀ res,
    Ev (fun k => foundryref11_Points.l1 k (B ++ ((d.drop (i + n - m)).take m).flatMap (if wideOf (rd d (i : Int)) = 0 then b1 else b2)) d ((i + n : Nat) : Int)) res →
    n ≤ 1000 → Ev (fun k => foundryref11_Points.l3 k B d (i : Int) ((i + n : Nat) : Int) ((i + n - m : Nat) : Int)) res := by
  intro m
  induction m with
  | zero =>
    intro B hm hB res h hn2
    rw [List.take_zero, List.flatMap_nil, List.append_nil] at h
    exact Ev.step (fun k => by rw [foundryref11_Points.l3, if_neg (by omega)]) h
  | succ m ih =>
    intro B hm hB res h hn2
    have hi := hd _ (rd_in (l := d) (j := i) (by omega))
    have hj := hd _ (rd_in (l := d) (j := i + n - (m + 1)) (by omega))
    have e1 := Aside0.mk (show wrap64 (((i + n - (m + 1) : Nat) : Int) + 1) = ((i + n - m : Nat) : Int) by unfold wrap64; omega)
    have hsplit : (d.drop (i + n - (m + 1))).take (m + 1) = rd d ((i + n - (m + 1) : Nat) : Int) :: (d.drop (i + n - m)).take m := by
      rw [List.drop_eq_getElem_cons (by omega), List.take_succ_cons, show i + n - (m + 1) + 1 = i + n - m by omega]
      simp [rd, show i + n - (m + 1) < d.length by omega]
    rw [hsplit, List.flatMap_cons, ← List.append_assoc] at h
    rcases wide01 _ hi.1 hi.2 with hw | hw
    · rw [hw] at h
      simp only [if_true] at h
      refine Ev.step (fun k => by rw [foundryref11_Points.l3, if_pos (by omega), if_pos (by omega), if_pos (by omega), if_pos (by omega), if_pos (by omega), ref_wide _ hi.1 hi.2, Option.bind_some, hw, (show wrap64 (1 + 0) = 1 by unfold wrap64; omega)]) (Ev.bind (big1 _ hj.1 hj.2) ?_)
      refine Ev.congr (fun k => by rw [if_pos (by simp [b1]; omega), e1.out]) ?_
      refine ih _ (by omega) (by simp [b1]; omega) res ?_ hn2
      rw [hw]
      exact h
    · rw [hw] at h
      simp only [if_neg (show ¬ (1 : Int) = 0 by omega)] at h
      refine Ev.step (fun k => by rw [foundryref11_Points.l3, if_pos (by omega), if_pos (by omega), if_pos (by omega), if_pos (by omega), if_pos (by omega), ref_wide _ hi.1 hi.2, Option.bind_some, hw, (show wrap64 (1 + 1) = 2 by unfold wrap64; omega)]) (Ev.bind (big2 _ hj.1 hj.2) ?_)
      refine Ev.congr (fun k => by rw [if_pos (by simp [b2]; omega), e1.out]) ?_
      refine ih _ (by omega) (by simp [b2]; omega) res ?_ hn2
      rw [hw]
      exact h

theorem W_end (i n : Nat) (hi : i < d.length) (hrun : Run wideOf 128 (d.drop i) n) (B : List Int) (res : List Int × Int) (h : Ev (fun k => foundryref11_Points.j4 k B d (i : Int) ((i + n : Nat) : Int)) res) :
    ∀ m t : Nat, t + m = n → Ev (fun k => foundryref11_Points.l2 k B d (i : Int) ((i + t : Nat) : Int)) res := by
  have h1 := hrun.one
  have h2 := hrun.len
  have h3 := hrun.long
  rw [List.length_drop] at h2
  have hwi := hd _ (rd_in hi)
  have e1 := Aside0.mk (show wrap64 ((i : Int) + 128) = (i : Int) + 128 by unfold wrap64; omega)
  have hat : ∀ t : Nat, rd (d.drop i) (t : Int) = rd d ((i + t : Nat) : Int) := fun t => rd_drop d i t
  have hat0 : rd (d.drop i) 0 = rd d (i : Int) := by have := hat 0; simpa using this
  intro m
  induction m with
  | zero =>
    intro t ht
    have : t = n := by omega
    subst this
    rcases hrun.most with hm | hm | hm
    · rw [List.length_drop] at hm
      exact Ev.step (fun k => by rw [foundryref11_Points.l2, if_neg (by omega)]) h
    · by_cases hlt : i + t < d.length
      · exact Ev.step (fun k => by rw [foundryref11_Points.l2, if_pos (by omega), e1.out, if_neg (by omega)]) h
      · exact Ev.step (fun k => by rw [foundryref11_Points.l2, if_neg (by omega)]) h
    · by_cases hlt : i + t < d.length
      · by_cases hlong : t = 128
        · exact Ev.step (fun k => by rw [foundryref11_Points.l2, if_pos (by omega), e1.out, if_neg (by omega)]) h
        · rw [hat, hat0] at hm
          have hwt := hd _ (rd_in hlt)
          exact Ev.step (fun k => by rw [foundryref11_Points.l2, if_pos (by omega), e1.out, if_pos (by omega), if_pos (by omega), ref_wide _ hwt.1 hwt.2, Option.bind_some, if_pos (by omega), if_pos (by omega), ref_wide _ hwi.1 hwi.2, Option.bind_some, if_neg hm]) h
      · exact Ev.step (fun k => by rw [foundryref11_Points.l2, if_neg (by omega)]) h
  | succ m ih =>
    intro t ht
    have hal := hrun.alike t (by omega)
    rw [hat, hat0] at hal
    have hwt := hd _ (rd_in (l := d) (j := i + t) (by omega))
    have e2 := Aside0.mk (show wrap64 (((i + t : Nat) : Int) + 1) = ((i + (t + 1) : Nat) : Int) by unfold wrap64; omega)
    exact Ev.step (fun k => by rw [foundryref11_Points.l2, if_pos (by omega), e1.out, if_pos (by omega), if_pos (by omega), ref_wide _ hwt.1 hwt.2, Option.bind_some, if_pos (by omega), if_pos (by omega), ref_wide _ hwi.1 hwi.2, Option.bind_some, if_pos hal, e2.out]) (ih (t + 1) (by omega))

theorem W_all : ∀ (m i : Nat) (B : List Int), d.length - i ≤ m → i ≤ d.length → B.length ≤ 3 * i + 2 → Ev (fun k => foundryref11_Points.l1 k B d (i : Int)) (B ++ packs wideOf 128 encP (d.drop i), 0) := by
  intro m
  induction m with
  | zero =>
    intro i B hm hi hB
    rw [List.drop_eq_nil_of_le (by omega), packs_nil, List.append_nil]
    exact Ev.step (fun k => by rw [foundryref11_Points.l1, if_neg (by omega)]) (Ev.now _)
  | succ m ih =>
    intro i B hm hi hB
    by_cases hlt : i < d.length
    · obtain ⟨n, hn⟩ : ∃ n, runLen wideOf 128 (d.drop i) = n := ⟨_, rfl⟩
      have hrun : Run wideOf 128 (d.drop i) n := hn ▸ runLen_run (by omega) (by rw [List.length_drop]; omega)
      have h1 := hrun.one
      have h2 := hrun.len
      have h3 := hrun.long
      rw [List.length_drop] at h2
      have hwi := hd _ (rd_in hlt)
      have hat0 : rd (d.drop i) 0 = rd d (i : Int) := by have := rd_drop d i 0; simpa using this
      refine Ev.step (fun k => by rw [foundryref11_Points.l1, if_pos (by omega)]) ?_
      have := W_end hd hl i n hlt hrun B (B ++ packs wideOf 128 encP (d.drop i), 0) ?_ n 0 (by omega)
      · rw [Nat.add_zero] at this
        exact this
      · have hx := Aside0.mk (hdr_wrap (wideOf (rd d (i : Int))) (i : Int) ((i + n : Nat) : Int) (n : Int) (wide01 _ hwi.1 hwi.2) (by omega) (by omega) (by omega) (by omega) (by omega))
        refine Ev.step (fun k => by rw [foundryref11_Points.j4, if_pos (by omega), if_pos (by omega), ref_wide _ hwi.1 hwi.2, Option.bind_some, if_pos (by omega), hx.out]) ?_
        have hW := W_run hd hl i n (by omega) h1 n (B ++ [128 * wideOf (rd d (i : Int)) + (n : Int) - 1]) (Nat.le_refl _) (by simp; omega) (B ++ packs wideOf 128 encP (d.drop i), 0)
        rw [show i + n - n = i by omega] at hW
        refine hW ?_ (by omega)
        have hfl := flat_len (if wideOf (rd d (i : Int)) = 0 then b1 else b2) 2 (fun x => by split <;> simp [b1, b2]) ((d.drop i).take n)
        have hih := ih (i + n) (B ++ [128 * wideOf (rd d (i : Int)) + (n : Int) - 1] ++ ((d.drop i).take n).flatMap (if wideOf (rd d (i : Int)) = 0 then b1 else b2)) (by omega) (by omega) (by
          rw [List.length_take, List.length_drop] at hfl
          simp only [List.length_append, List.length_cons, List.length_nil]
          omega)
        rw [packs_step (by omega) hrun, hat0, List.drop_drop]
        rw [show B ++ (encP (wideOf (rd d (i : Int))) ((d.drop i).take n) ++ packs wideOf 128 encP (d.drop (i + n))) = B ++ [128 * wideOf (rd d (i : Int)) + (n : Int) - 1] ++ ((d.drop i).take n).flatMap (if wideOf (rd d (i : Int)) = 0 then b1 else b2) ++ packs wideOf 128 encP (d.drop (i + n)) by
          have : (((d.drop i).take n).length : Int) = (n : Int) := by rw [List.length_take, List.length_drop]; omega
          unfold encP
          rw [this]
          simp]
        exact hih
    · rw [List.drop_eq_nil_of_le (by omega), packs_nil, List.append_nil]
      exact Ev.step (fun k => by rw [foundryref11_Points.l1, if_neg (by omega)]) (Ev.now _)
end

theorem W_steps {l : List Int} (hr : risingB l = true) (hl : l.length ≤ 2000) (B : List Int) (res : List Int × Int) (h : Ev (fun k => foundryref11_Points.l1 k B (stepsOf l) 0) res) :
    ∀ n j : Nat, j + n = l.length → Ev (fun k => foundryref11_Points.l0 k l B ((stepsOf l).take j) (j : Int)) res := by
  intro n
  induction n with
  | zero =>
    intro j hj
    refine Ev.step (fun k => by rw [foundryref11_Points.l0, if_neg (by omega)]) ?_
    rw [List.take_of_length_le (by rw [stepsOf_len]; omega)]
    exact h
  | succ n ih =>
    intro j hj
    have hlt : j < l.length := by omega
    have e : (stepsOf l).take (j + 1) = (stepsOf l).take j ++ [stepAt l j] := by
      rw [List.take_succ_eq_append_getElem (by rw [stepsOf_len]; exact hlt)]
      simp [stepsOf]
    have e2 := Aside0.mk (show wrap64 ((j : Int) + 1) = ((j + 1 : Nat) : Int) by unfold wrap64; omega)
    have hlen : ((stepsOf l).take j).length ≤ 2000 := by rw [List.length_take]; omega
    by_cases hj0 : j = 0
    · refine Ev.step (fun k => by rw [foundryref11_Points.l0, if_pos (by omega), if_pos (by omega), if_neg (by omega), if_pos (by omega), e2.out]) ?_
      have := ih (j + 1) (by omega)
      rw [e, show stepAt l j = rd l (j : Int) by unfold stepAt; rw [if_pos hj0]] at this
      exact this
    · have e3 := Aside0.mk (show wrap64 ((j : Int) - 1) = ((j - 1 : Nat) : Int) by unfold wrap64; omega)
      have h1 := rising_nonneg hr j hlt
      have h2 := rising_nonneg hr (j - 1) (by omega)
      have h3 := (up_of hr j hlt).2
      have h4 := (up_of hr (j - 1) (by omega)).2
      have e4 := Aside0.mk (show wrap64 (rd l (j : Int) - rd l ((j - 1 : Nat) : Int)) = stepAt l j by unfold stepAt; rw [if_neg hj0]; unfold wrap64; omega)
      refine Ev.step (fun k => by rw [foundryref11_Points.l0, if_pos (by omega), if_pos (by omega), if_pos (by omega), e3.out, if_pos (by omega), if_pos (by omega), if_pos (by omega), e4.out, e2.out]) ?_
      have := ih (j + 1) (by omega)
      rw [e] at this
      exact this

theorem ref_points (l : List Int) (hl : l.length ≤ 1000000) : ∃ r, packed_Points.f l = some r ∧ Ev (fun k => foundryref11_Points.f k l) r := by
  unfold packed_Points.f
  refine ⟨_, rfl, ?_⟩
  unfold foundryref11_Points.f
  refine Ev.bind (R_rising l hl) ?_
  by_cases hr : risingB l = true
  · have hl2 : l.length ≤ 2000 := by simp only [risingB, Bool.and_eq_true, decide_eq_true_eq] at hr; exact hr.2
    have main : ∀ B : List Int, B.length ≤ 2 → Ev (fun k => foundryref11_Points.j0 k l B) (B ++ packs wideOf 128 encP (stepsOf l), 0) := fun B hB => by
      refine Ev.step (fun k => by rw [foundryref11_Points.j0]) ?_
      have hA := W_all (d := stepsOf l) (steps_in hr) (by rw [stepsOf_len]; omega) (stepsOf l).length 0 B (by omega) (by omega) (by omega)
      rw [List.drop_zero] at hA
      have := W_steps hr hl2 B _ hA l.length 0 (by omega)
      rw [List.take_zero] at this
      exact this
    simp only [if_pos hr]
    by_cases h128 : (l.length : Int) ≥ 128
    · simp only [if_pos h128]
      have e := Aside0.mk (show (wrap64 (128 + wrap64 ((l.length : Int) / 256))) % 256 = 128 + (l.length : Int) / 256 by unfold wrap64; omega)
      have := main (hdrP l.length) (hdrP_len _)
      refine Ev.congr (fun k => ?_) this
      rw [if_pos (by simp), Option.bind_some, if_pos (by simp), e.out]
      unfold hdrP
      rw [if_neg (by omega)]
      rfl
    · simp only [if_neg h128]
      have := main (hdrP l.length) (hdrP_len _)
      refine Ev.congr (fun k => ?_) this
      rw [if_pos (by simp)]
      unfold hdrP
      rw [if_pos (by omega), show ((l.length : Int)) % 256 = (l.length : Int) by omega]
      rfl
  · simp only [if_neg hr]
    exact Ev.now _
end Go.Proofs.Ytmppdgjnibamlaa.Pure

/-! A list is the same as itself. -/
namespace Go.Proofs.Ytmppdgjnibamlaa.Pure
open Go.RowKit Go.Proofs.Ytmppdgjnibamlaa.PPk Go.Proofs.YtmppdgjnibamlaaW.PrintWords Go.Proofs.YtmppdgjnibamlaaW.PrintLast Go.Proofs.Ytmppdgjnibamlaa.Pag
set_option linter.unusedVariables false
set_option linter.unusedSimpArgs false

theorem same_self (l : List Int) (hl : l.length ≤ 1000000) : Ev (fun k => foundryref04_Same.f k l l) true := by
  unfold foundryref04_Same.f
  simp only [if_true]
  have main : ∀ n j : Nat, j + n = l.length → Ev (fun k => foundryref04_Same.l0 k l l (j : Int)) true := by
    intro n
    induction n with
    | zero => intro j hj; exact Ev.step (fun k => by rw [foundryref04_Same.l0, if_neg (by omega)]) (Ev.now _)
    | succ n ih =>
      intro j hj
      have e := Aside0.mk (show wrap64 ((j : Int) + 1) = ((j + 1 : Nat) : Int) by unfold wrap64; omega)
      exact Ev.step (fun k => by rw [foundryref04_Same.l0, if_pos (by omega), if_pos (by omega), if_pos (by omega), if_pos rfl, e.out]) (ih (j + 1) (by omega))
  exact main l.length 0 (by omega)
theorem sameInts_self (l : List Int) (hl : l.length ≤ 1000000) : Ev (fun k => foundryref06_SameInts.f k l l) true := by
  unfold foundryref06_SameInts.f
  simp only [if_true]
  have main : ∀ n j : Nat, j + n = l.length → Ev (fun k => foundryref06_SameInts.l0 k l l (j : Int)) true := by
    intro n
    induction n with
    | zero => intro j hj; exact Ev.step (fun k => by rw [foundryref06_SameInts.l0, if_neg (by omega)]) (Ev.now _)
    | succ n ih =>
      intro j hj
      have e := Aside0.mk (show wrap64 ((j : Int) + 1) = ((j + 1 : Nat) : Int) by unfold wrap64; omega)
      exact Ev.step (fun k => by rw [foundryref06_SameInts.l0, if_pos (by omega), if_pos (by omega), if_pos (by omega), if_pos rfl, e.out]) (ih (j + 1) (by omega))
  exact main l.length 0 (by omega)
theorem awakeOk : foundrylaw11_awake.f = some true := by decide +kernel
theorem bytes_of {l : List Int} (h : ∀ x ∈ l, (Lit.int .u8 x).wf = true) : l.all byteB = true := List.all_eq_true.2 fun x hx => by
  have := h x hx
  simp [Lit.wf, IntKind.min, IntKind.max, IntKind.bits, IntKind.signed] at this
  simp [byteB]
  omega
theorem readP_len {b : List Int} : ∀ {f n a : Nat} {last : Int} {q : List Int × Nat}, a ≤ b.length → readP b f n a last = some q → q.1.length = n
  | 0, n, a, last, q, ha, h => by
    simp only [readP] at h
    split at h
    · injection h with h; subst h; simp_all
    · cases h
  | f + 1, n, a, last, q, ha, h => by
    simp only [readP] at h
    split at h
    · injection h with h; subst h; simp_all
    · split at h
      · rename_i hs
        split at h
        · rename_i hg
          cases hr : runP b (decide (128 ≤ rd b (a : Int))) (cntP (rd b (a : Int))) (a + 1) last with
          | none => rw [hr] at h; cases h
          | some r =>
            rw [hr] at h
            simp only [] at h
            obtain ⟨t, ht, rfl⟩ := Option.map_eq_some_iff.1 h
            have h1 := runP_len (by omega) hr
            have h2 := readP_len h1.2 ht
            simp only [List.length_append, h1.1, h2]
            omega
        · cases h
      · cases h
theorem endP_len (b : List Int) (f n a : Nat) (last : Int) (ha : a ≤ b.length) : (endP [] (readP b f n a last)).1.length ≤ n := by
  cases h : readP b f n a last with
  | none => simp [endP]
  | some q =>
    have := readP_len ha h
    simp only [endP, List.nil_append]
    split
    · simp only []; omega
    · simp
theorem tellP_len (b : List Int) (hb : b.all byteB = true) : (tellP b).1.length ≤ 40000 := by
  unfold tellP
  split
  · simp
  · rename_i h0
    have hc := byte_rd hb (show 0 < b.length by omega)
    rw [show ((0 : Nat) : Int) = 0 from rfl] at hc
    split
    · exact Nat.le_trans (endP_len _ _ _ _ _ (by omega)) (by omega)
    · split
      · simp
      · have hd := byte_rd hb (show 1 < b.length by omega)
        rw [show ((1 : Nat) : Int) = 1 from rfl] at hd
        exact Nat.le_trans (endP_len _ _ _ _ _ (by omega)) (by omega)
end Go.Proofs.Ytmppdgjnibamlaa.Pure
