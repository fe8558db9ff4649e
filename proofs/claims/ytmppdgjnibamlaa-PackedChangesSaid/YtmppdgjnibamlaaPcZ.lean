/- Changes are packed and read alike by both, plain. -/
import Derived.Test.YtmppdgjnibamlaaPPcx
namespace Go.Proofs.Ytmppdgjnibamlaa.Pure
open Go.RowKit Go.Proofs.Ytmppdgjnibamlaa.PPc Go.Proofs.YtmppdgjnibamlaaW.PrintWords Go.Proofs.YtmppdgjnibamlaaW.PrintLast Go.Proofs.Ytmppdgjnibamlaa.Pag
set_option linter.unusedVariables false
set_option linter.unusedSimpArgs false

theorem wrapIn (x : Int) (h0 : -9223372036854775808 ≤ x) (h1 : x ≤ 9223372036854775807) : wrap64 x = x := by unfold wrap64; omega
theorem take1 (b : List Int) (a : Nat) (h : a < b.length) : (b.drop a).take 1 = [rd b (a : Int)] := by
  rw [List.drop_eq_getElem_cons h]
  show [b[a]] = _
  simp [rd, h]
theorem take2 (b : List Int) (a : Nat) (h : a + 1 < b.length) : (b.drop a).take 2 = [rd b (a : Int), rd b ((a : Int) + 1)] := by
  rw [List.drop_eq_getElem_cons (by omega), List.drop_eq_getElem_cons (by omega)]
  have e : ((a : Int) + 1).toNat = a + 1 := by omega
  show [b[a], b[a + 1]] = _
  simp [rd, h, show a < b.length by omega, e]
theorem oct_u8 (b : List Int) (hb : b.all byteB = true) (hl : b.length ≤ 1000000) (a : Nat) : octets_U8.f b (a : Int) = some (if a < b.length then (rd b (a : Int), true) else (0, false)) := by
  unfold octets_U8.f octets_field.f
  rw [if_pos ⟨hb, by omega, by omega⟩]
  by_cases h : a < b.length
  · rw [if_neg (by omega), if_pos h, Int.toNat_natCast, show (1 : Int).toNat = 1 from rfl, take1 b a h]
    simp [numBE]
  · rw [if_pos (by omega), if_neg h]
theorem oct_u16 (b : List Int) (hb : b.all byteB = true) (hl : b.length ≤ 1000000) (a : Nat) : octets_U16.f b (a : Int) = some (if a + 2 ≤ b.length then (256 * rd b (a : Int) + rd b ((a : Int) + 1), true) else (0, false)) := by
  unfold octets_U16.f octets_field.f
  rw [if_pos ⟨hb, by omega, by omega⟩]
  by_cases h : a + 2 ≤ b.length
  · rw [if_neg (by omega), if_pos h, Int.toNat_natCast, show (2 : Int).toNat = 2 from rfl, take2 b a (by omega)]
    simp [numBE]
  · rw [if_pos (by omega), if_neg h]
theorem byte_rd {b : List Int} (hb : b.all byteB = true) {a : Nat} (h : a < b.length) : 0 ≤ rd b (a : Int) ∧ rd b (a : Int) ≤ 255 := by
  have := List.all_eq_true.1 hb _ (rd_in h)
  simpa [byteB] using this
theorem byte_rd1 {b : List Int} (hb : b.all byteB = true) {a : Nat} (h : a + 1 < b.length) : 0 ≤ rd b ((a : Int) + 1) ∧ rd b ((a : Int) + 1) ≤ 255 := by
  have := byte_rd hb h
  rwa [show (((a + 1 : Nat)) : Int) = (a : Int) + 1 by omega] at this

theorem ref_u8 (b : List Int) (hb : b.all byteB = true) (hl : b.length ≤ 1000000) (a : Nat) (ha : a ≤ 2000000) : Ev (fun k => foundryref04_U8.f k b (a : Int)) (if a < b.length then (rd b (a : Int), true) else (0, false)) := by
  unfold foundryref04_U8.f foundryref04_number.f
  simp only [if_neg (show ¬ (a : Int) < 0 by omega)]
  by_cases h0 : (b.length : Int) < 1
  · simp only [if_pos h0, if_neg (show ¬ a < b.length by omega)]
    exact Ev.bind (a := (0, false)) (Ev.step (fun k => by rw [foundryref04_number.j0, if_pos rfl]) (Ev.now _)) (Ev.now _)
  · simp only [if_neg h0]
    rw [wrapIn _ (by omega) (by omega)]
    by_cases h : a < b.length
    · have r := byte_rd hb h
      simp only [if_pos h]
      have e0 : wrap64 ((a : Int) + 0) = (a : Int) := by unfold wrap64; omega
      have e1 : wrap64 (wrap64 (256 * 0) + wrap64 (rd b (a : Int))) = rd b (a : Int) := by unfold wrap64; omega
      have e2 : wrap64 ((0 : Int) + 1) = 1 := by unfold wrap64; omega
      refine Ev.bind (a := (rd b (a : Int), true)) (Ev.step (fun k => by rw [foundryref04_number.j0, if_neg (by simp; omega)]) (Ev.step (fun k => by rw [foundryref04_number.l0, if_pos (by omega), e0, if_pos (by omega), if_pos (by omega), e1, e2]) (Ev.step (fun k => by rw [foundryref04_number.l0, if_neg (by omega)]) ?_))) (Ev.now _)
      exact Ev.now _
    · simp only [if_neg h]
      exact Ev.bind (a := (0, false)) (Ev.step (fun k => by rw [foundryref04_number.j0, if_pos (by simp; omega)]) (Ev.now _)) (Ev.now _)
theorem ref_u16 (b : List Int) (hb : b.all byteB = true) (hl : b.length ≤ 1000000) (a : Nat) (ha : a ≤ 2000000) : Ev (fun k => (foundryref04_number.f k b (a : Int) 2).bind fun bt => some (bt.1, bt.2)) (if a + 2 ≤ b.length then (256 * rd b (a : Int) + rd b ((a : Int) + 1), true) else (0, false)) := by
  unfold foundryref04_number.f
  simp only [if_neg (show ¬ (a : Int) < 0 by omega)]
  by_cases h0 : (b.length : Int) < 2
  · simp only [if_pos h0, if_neg (show ¬ a + 2 ≤ b.length by omega)]
    exact Ev.bind (a := (0, false)) (Ev.step (fun k => by rw [foundryref04_number.j0, if_pos rfl]) (Ev.now _)) (Ev.now _)
  · simp only [if_neg h0]
    rw [wrapIn _ (by omega) (by omega)]
    by_cases h : a + 2 ≤ b.length
    · have r := byte_rd hb (show a < b.length by omega)
      have r2 := byte_rd1 hb (show a + 1 < b.length by omega)
      simp only [if_pos h]
      have e0 : wrap64 ((a : Int) + 0) = (a : Int) := by unfold wrap64; omega
      have e1 : wrap64 (wrap64 (256 * 0) + wrap64 (rd b (a : Int))) = rd b (a : Int) := by unfold wrap64; omega
      have e2 : wrap64 ((0 : Int) + 1) = 1 := by unfold wrap64; omega
      have e3 : wrap64 ((a : Int) + 1) = (a : Int) + 1 := by unfold wrap64; omega
      have e4 : wrap64 (wrap64 (256 * rd b (a : Int)) + wrap64 (rd b ((a : Int) + 1))) = 256 * rd b (a : Int) + rd b ((a : Int) + 1) := by unfold wrap64; omega
      have e5 : wrap64 ((1 : Int) + 1) = 2 := by unfold wrap64; omega
      refine Ev.bind (a := (256 * rd b (a : Int) + rd b ((a : Int) + 1), true)) (Ev.step (fun k => by rw [foundryref04_number.j0, if_neg (by simp; omega)]) (Ev.step (fun k => by rw [foundryref04_number.l0, if_pos (by omega), e0, if_pos (by omega), if_pos (by omega), e1, e2])
        (Ev.step (fun k => by rw [foundryref04_number.l0, if_pos (by omega), e3, if_pos (by omega), if_pos (by omega), e4, e5]) (Ev.step (fun k => by rw [foundryref04_number.l0, if_neg (by omega)]) ?_)))) (Ev.now _)
      exact Ev.now _
    · simp only [if_neg h]
      exact Ev.bind (a := (0, false)) (Ev.step (fun k => by rw [foundryref04_number.j0, if_pos (by simp; omega)]) (Ev.now _)) (Ev.now _)

theorem big2 (x : Int) (h0 : 0 ≤ x) (h1 : x ≤ 65535) : Ev (fun k => foundryref04_Big.f k x 2) (b2 x) := by
  unfold foundryref04_Big.f
  simp only [if_pos (show (0 : Int) ≤ 2 by omega), if_pos (show (2 : Int).toNat ≤ 281474976710656 by decide)]
  rw [show (2 : Int).toNat = 2 from rfl, (show wrap64 (2 - 1) = 1 by unfold wrap64; omega)]
  have e : (x.tmod 256) % 256 = x % 256 := by rw [Int.tmod_eq_emod_of_nonneg h0]; omega
  have e2 := Aside0.mk (show wrap64 (x.tdiv 256) = x / 256 by rw [Int.tdiv_eq_ediv_of_nonneg h0]; unfold wrap64; omega)
  have e3 : ((x / 256).tmod 256) % 256 = x / 256 % 256 := by rw [Int.tmod_eq_emod_of_nonneg (by omega)]; omega
  refine Ev.step (fun k => by rw [foundryref04_Big.l0, if_pos (by omega), if_pos (by omega), if_pos (by simp), e, e2.out, (show wrap64 (1 - 1) = 0 by unfold wrap64; omega)]) (Ev.step (fun k => by rw [foundryref04_Big.l0, if_pos (by omega), if_pos (by omega), if_pos (by simp), e3, (show wrap64 (0 - 1) = -1 by unfold wrap64; omega)]) (Ev.step (fun k => by rw [foundryref04_Big.l0, if_neg (by omega)]) ?_))
  exact Ev.now _

theorem rd_drop (d : List Int) (i j : Nat) : rd (d.drop i) (j : Int) = rd d ((i + j : Nat) : Int) := by
  unfold rd
  rw [Int.toNat_natCast, Int.toNat_natCast]
  simp [List.getD_eq_getElem?_getD]

theorem same_self (l : List Int) (hl : l.length ≤ 1000000) : Ev (fun k => foundryref04_Same.f k l l) true := by
  unfold foundryref04_Same.f
  simp only [if_true]
  have main : ∀ n j : Nat, j + n = l.length → Ev (fun k => foundryref04_Same.l0 k l l (j : Int)) true := by
    intro n
    induction n with
    | zero => intro j hj; exact Ev.step (fun k => by rw [foundryref04_Same.l0, if_neg (by omega)]) (Ev.now _)
    | succ n ih =>
      intro j hj
      have e := Aside0.mk (show wrap64 ((j : Int) + 1) = ((j + 1 : Nat) : Int) by unfold wrap64; omega)
      exact Ev.step (fun k => by rw [foundryref04_Same.l0, if_pos (by omega), if_pos (by omega), if_pos (by omega), if_pos rfl, e.out]) (ih (j + 1) (by omega))
  exact main l.length 0 (by omega)

theorem sameInts_self (l : List Int) (hl : l.length ≤ 1000000) : Ev (fun k => foundryref06_SameInts.f k l l) true := by
  unfold foundryref06_SameInts.f
  simp only [if_true]
  have main : ∀ n j : Nat, j + n = l.length → Ev (fun k => foundryref06_SameInts.l0 k l l (j : Int)) true := by
    intro n
    induction n with
    | zero => intro j hj; exact Ev.step (fun k => by rw [foundryref06_SameInts.l0, if_neg (by omega)]) (Ev.now _)
    | succ n ih =>
      intro j hj
      have e := Aside0.mk (show wrap64 ((j : Int) + 1) = ((j + 1 : Nat) : Int) by unfold wrap64; omega)
      exact Ev.step (fun k => by rw [foundryref06_SameInts.l0, if_pos (by omega), if_pos (by omega), if_pos (by omega), if_pos rfl, e.out]) (ih (j + 1) (by omega))
  exact main l.length 0 (by omega)
theorem awakeOk : foundrylaw11_awake.f = some true := by decide +kernel
theorem bytes_of {l : List Int} (h : ∀ x ∈ l, (Lit.int .u8 x).wf = true) : l.all byteB = true := List.all_eq_true.2 fun x hx => by
  have := h x hx
  simp [Lit.wf, IntKind.min, IntKind.max, IntKind.bits, IntKind.signed] at this
  simp [byteB]
  omega

def szC (q : Int) : Nat := if q = 0 then 1 else if q = 1 then 2 else 0
def valC (b : List Int) (q : Int) (a : Nat) : Int :=
  if q = 0 then (if rd b (a : Int) ≥ 128 then rd b (a : Int) - 256 else rd b (a : Int))
  else if q = 1 then (if 256 * rd b (a : Int) + rd b ((a : Int) + 1) ≥ 32768 then 256 * rd b (a : Int) + rd b ((a : Int) + 1) - 65536 else 256 * rd b (a : Int) + rd b ((a : Int) + 1)) else 0
def runC (b : List Int) (q : Int) : Nat → Nat → Option (List Int × Nat)
  | 0, a => some ([], a)
  | m + 1, a => if a + szC q ≤ b.length then (runC b q m (a + szC q)).map (fun r => (valC b q a :: r.1, r.2)) else none
def cntC (c : Int) : Nat := (c % 64).toNat + 1
def readC (b : List Int) : Nat → Nat → Nat → Option (List Int × Nat)
  | 0, n, a => if n = 0 then some ([], a) else none
  | f + 1, n, a => if n = 0 then some ([], a) else if a < b.length ∧ rd b (a : Int) < 192 ∧ cntC (rd b (a : Int)) ≤ n then
      (match runC b (rd b (a : Int) / 64) (cntC (rd b (a : Int))) (a + 1) with
        | none => none
        | some r => (readC b f (n - cntC (rd b (a : Int))) r.2).map fun q => (r.1 ++ q.1, q.2)) else none
def endC (L : List Int) : Option (List Int × Nat) → List Int × Int × Int
  | none => ([], 0, 2)
  | some q => (L ++ q.1, (q.2 : Int), 0)
def tellC (b : List Int) (n : Int) : List Int × Int × Int := if n < 0 ∨ 2000 < n then ([], 0, 4) else endC [] (readC b n.toNat n.toNat 0)

theorem and63 (x : Int) (h0 : 0 ≤ x) (h1 : x < 65536) : Go.bits .and .i64 x 63 = x % 64 := bits_mask .i64 63 (by decide) wraps_i64 6 (by decide) x h0 (by omega)
theorem cntC_le (c : Int) : 1 ≤ cntC c ∧ cntC c ≤ 64 := by unfold cntC; omega
theorem runC_len {b : List Int} {q : Int} : ∀ {m a : Nat} {r : List Int × Nat}, a ≤ b.length → runC b q m a = some r → r.1.length = m ∧ r.2 ≤ b.length
  | 0, a, r, ha, h => by
    simp only [runC, Option.some.injEq] at h
    subst h
    exact ⟨rfl, ha⟩
  | m + 1, a, r, ha, h => by
    simp only [runC] at h
    split at h
    · rename_i hs
      obtain ⟨t, ht, rfl⟩ := Option.map_eq_some_iff.1 h
      have := runC_len hs ht
      exact ⟨by simp [this.1], this.2⟩
    · cases h
theorem oct_i16 (b : List Int) (hb : b.all byteB = true) (hl : b.length ≤ 1000000) (a : Nat) : octets_I16.f b (a : Int) = some (if a + 2 ≤ b.length then (valC b 1 a, true) else (0, false)) := by
  have h := oct_u16 b hb hl a
  unfold octets_U16.f at h
  unfold octets_I16.f
  rw [h]
  by_cases hs : a + 2 ≤ b.length
  · simp only [if_pos hs, Option.map_some, sg, valC, if_true, if_neg (show ¬ (1 : Int) = 0 by omega)]
    congr 1
  · simp only [if_neg hs, Option.map_some, sg]
    rfl
theorem i8_val (v : Int) (h0 : 0 ≤ v) (h1 : v ≤ 255) : wrap64 (IntKind.i8.wrap v) = if v ≥ 128 then v - 256 else v := by
  have : IntKind.i8.wrap v = if v ≥ 128 then v - 256 else v := by
    simp only [IntKind.wrap, IntKind.bits, IntKind.signed]
    simp
    split <;> omega
  rw [this]
  split
  · exact wrapIn _ (by omega) (by omega)
  · exact wrapIn _ (by omega) (by omega)

section
variable {b : List Int} (hb : b.all byteB = true) (hl : b.length ≤ 1000000)
include hb hl
theorem PC_run (N : Int) (c : Int) (hc0 : 0 ≤ c) (hc1 : c < 192) (cnt : Nat) (hcnt : cnt ≤ 1000) : ∀ (m a : Nat) (L : List Int), m ≤ cnt → a ≤ b.length → L.length + m ≤ 40000 → ∀ res,
    (match runC b (c / 64) m a with | none => res = (([] : List Int), (0 : Int), (2 : Int)) | some r => Ev (fun k => packed_ReadChanges.l0 k b N (L ++ r.1) (r.2 : Int)) res) →
    Ev (fun k => packed_ReadChanges.l1 k b N L (a : Int) c true (cnt : Int) ((cnt - m : Nat) : Int)) res := by
  intro m
  induction m with
  | zero =>
    intro a L hm ha h2 res h
    simp only [runC, List.append_nil] at h
    exact Ev.step (fun k => by rw [packed_ReadChanges.l1, if_neg (by omega)]) h
  | succ m ih =>
    intro a L hm ha h2 res h
    have hi := Aside0.mk (show wrap64 (((cnt - (m + 1) : Nat) : Int) + 1) = ((cnt - m : Nat) : Int) by unfold wrap64; omega)
    have hgo := Aside0.mk (fun (s : Nat) (hs : s = szC (c / 64)) (hle : a + s ≤ b.length) => show Ev (fun k => packed_ReadChanges.l1 k b N (L ++ [valC b (c / 64) a]) ((a + s : Nat) : Int) c true (cnt : Int) ((cnt - m : Nat) : Int)) res by
      subst hs
      refine ih (a + szC (c / 64)) (L ++ [valC b (c / 64) a]) (by omega) hle (by simp; omega) res ?_
      simp only [runC, if_pos hle] at h
      cases hr : runC b (c / 64) m (a + szC (c / 64)) with
      | none => rw [hr] at h; simpa using h
      | some r => rw [hr] at h; simpa [List.append_assoc] using h)
    have hno := Aside0.mk (fun (hle : ¬ a + szC (c / 64) ≤ b.length) => show res = (([] : List Int), (0 : Int), (2 : Int)) by
      simp only [runC, if_neg hle] at h
      exact h)
    clear h ih
    obtain hq | hq | hq : c / 64 = 0 ∨ c / 64 = 1 ∨ c / 64 = 2 := by omega
    · have hu := oct_u8 b hb hl a
      have hz : szC (c / 64) = 1 := by rw [hq]; rfl
      by_cases hs : a < b.length
      · rw [if_pos hs] at hu
        have hv := byte_rd hb hs
        have e1 := Aside0.mk (show wrap64 ((a : Int) + 1) = ((a + 1 : Nat) : Int) by unfold wrap64; omega)
        have e2 := Aside0.mk (show wrap64 (IntKind.i8.wrap (rd b (a : Int))) = valC b (c / 64) a by rw [i8_val _ hv.1 hv.2, hq]; rfl)
        exact Ev.step (fun k => by rw [packed_ReadChanges.l1, if_pos (by omega), if_pos hq, hu, Option.bind_some, if_pos rfl, if_pos (by omega), e1.out, e2.out, hi.out]) (hgo.out 1 hz.symm hs)
      · rw [if_neg hs] at hu
        rw [hno.out (by rw [hz]; exact hs)]
        exact Ev.step (fun k => by rw [packed_ReadChanges.l1, if_pos (by omega), if_pos hq, hu, Option.bind_some, if_neg (by simp)]) (Ev.now _)
    · have hu := oct_i16 b hb hl a
      have hz : szC (c / 64) = 2 := by rw [hq]; rfl
      by_cases hs : a + 2 ≤ b.length
      · rw [if_pos hs] at hu
        have e1 := Aside0.mk (show wrap64 ((a : Int) + 2) = ((a + 2 : Nat) : Int) by unfold wrap64; omega)
        have := hgo.out 2 hz.symm hs
        rw [hq] at this
        exact Ev.step (fun k => by rw [packed_ReadChanges.l1, if_pos (by omega), if_neg (by omega), if_pos hq, hu, Option.bind_some, if_pos rfl, if_pos (by omega), e1.out, hi.out]) this
      · rw [if_neg hs] at hu
        rw [hno.out (by rw [hz]; exact hs)]
        exact Ev.step (fun k => by rw [packed_ReadChanges.l1, if_pos (by omega), if_neg (by omega), if_pos hq, hu, Option.bind_some, if_neg (by simp)]) (Ev.now _)
    · have hz : szC (c / 64) = 0 := by rw [hq]; rfl
      have := hgo.out 0 hz.symm (by omega)
      rw [show valC b (c / 64) a = 0 by rw [hq]; rfl, Nat.add_zero] at this
      exact Ev.step (fun k => by rw [packed_ReadChanges.l1, if_pos (by omega), if_neg (by omega), if_neg (by omega), if_pos rfl, if_pos (by omega), hi.out]) this

theorem PC_all : ∀ (f n a : Nat) (L : List Int), n ≤ f → a ≤ b.length → L.length + n ≤ 40000 →
    Ev (fun k => packed_ReadChanges.l0 k b ((L.length + n : Nat) : Int) L (a : Int)) (endC L (readC b f n a)) := by
  intro f
  induction f with
  | zero =>
    intro n a L hn ha h2
    have : n = 0 := by omega
    subst this
    simp only [readC, if_pos, endC, List.append_nil, Nat.add_zero]
    exact Ev.step (fun k => by rw [packed_ReadChanges.l0, if_neg (by omega)]) (Ev.now _)
  | succ f ih =>
    intro n a L hn ha h2
    by_cases hz : n = 0
    · subst hz
      simp only [readC, if_pos, endC, List.append_nil, Nat.add_zero]
      exact Ev.step (fun k => by rw [packed_ReadChanges.l0, if_neg (by omega)]) (Ev.now _)
    · have hu := oct_u8 b hb hl a
      simp only [readC, if_neg hz]
      by_cases hs : a < b.length
      · rw [if_pos hs] at hu
        have hc := byte_rd hb hs
        have hcn := cntC_le (rd b (a : Int))
        have e1 := Aside0.mk (show wrap64 ((a : Int) + 1) = ((a + 1 : Nat) : Int) by unfold wrap64; omega)
        have e2 := Aside0.mk (show wrap64 (Go.bits .and .i64 (rd b (a : Int)) 63 + 1) = (cntC (rd b (a : Int)) : Int) by
          rw [and63 _ hc.1 (by omega)]; unfold wrap64 cntC; omega)
        have e3 := Aside0.mk (show wrap64 (((L.length + n : Nat) : Int) - (L.length : Int)) = (n : Int) by unfold wrap64; omega)
        by_cases h192 : rd b (a : Int) ≥ 192
        · rw [if_neg (by omega)]
          refine Ev.step (fun k => by rw [packed_ReadChanges.l0, if_pos (by omega), hu, Option.bind_some, if_pos rfl, if_pos h192]) ?_
          exact Ev.step (f := fun _ => some (endC L none)) (fun k => by rw [packed_ReadChanges.j2, if_pos rfl]; rfl) (Ev.now _)
        · refine Ev.step (fun k => by rw [packed_ReadChanges.l0, if_pos (by omega), hu, Option.bind_some, if_pos rfl, if_neg h192, e1.out, e2.out, e3.out]) ?_
          by_cases hg : cntC (rd b (a : Int)) ≤ n
          · rw [if_pos ⟨hs, by omega, hg⟩]
            refine Ev.step (fun k => by rw [packed_ReadChanges.j2, if_neg (by simp; omega)]) ?_
            have := PC_run hb hl ((L.length + n : Nat) : Int) (rd b (a : Int)) hc.1 (by omega) (cntC (rd b (a : Int))) (by omega) (cntC (rd b (a : Int))) (a + 1) L (by omega) (by omega) (by omega)
            rw [Nat.sub_self] at this
            refine this _ ?_
            cases hr : runC b (rd b (a : Int) / 64) (cntC (rd b (a : Int))) (a + 1) with
            | none => rfl
            | some r =>
              have hr1 := runC_len (by omega) hr
              have hi := ih (n - cntC (rd b (a : Int))) r.2 (L ++ r.1) (by omega) hr1.2 (by rw [List.length_append, hr1.1]; omega)
              rw [List.length_append, hr1.1, show L.length + cntC (rd b (a : Int)) + (n - cntC (rd b (a : Int))) = L.length + n by omega] at hi
              simp only []
              have e : endC L ((readC b f (n - cntC (rd b (a : Int))) r.2).map fun q => (r.1 ++ q.1, q.2)) = endC (L ++ r.1) (readC b f (n - cntC (rd b (a : Int))) r.2) := by
                cases readC b f (n - cntC (rd b (a : Int))) r.2 with
                | none => rfl
                | some q => simp [endC, List.append_assoc]
              rw [e]
              exact hi
          · rw [if_neg (by omega)]
            exact Ev.step (f := fun _ => some (endC L none)) (fun k => by rw [packed_ReadChanges.j2, if_pos (by simp; omega)]; rfl) (Ev.now _)
      · rw [if_neg hs] at hu
        rw [if_neg (by omega)]
        refine Ev.step (fun k => by rw [packed_ReadChanges.l0, if_pos (by omega), hu, Option.bind_some, if_neg (by simp)]) ?_
        exact Ev.step (f := fun _ => some (endC L none)) (fun k => by rw [packed_ReadChanges.j2, if_pos rfl]; rfl) (Ev.now _)
theorem PC_tell (n : Int) : Ev (fun k => packed_ReadChanges.f k b n) (tellC b n) := by
  unfold packed_ReadChanges.f tellC
  by_cases h0 : n < 0
  · simp only [if_pos h0, if_pos (show n < 0 ∨ 2000 < n from .inl h0)]
    exact Ev.step (fun k => by rw [packed_ReadChanges.j0, if_pos rfl]) (Ev.now _)
  · simp only [if_neg h0]
    by_cases h1 : n > 2000
    · rw [show decide (n > 2000) = true by simpa using h1, if_pos (show n < 0 ∨ 2000 < n from .inr h1)]
      exact Ev.step (fun k => by rw [packed_ReadChanges.j0, if_pos rfl]) (Ev.now _)
    · rw [show decide (n > 2000) = false by simpa using h1, if_neg (show ¬ (n < 0 ∨ 2000 < n) by omega)]
      refine Ev.step (fun k => by rw [packed_ReadChanges.j0, if_neg (by simp)]) ?_
      have := PC_all hb hl n.toNat n.toNat 0 [] (Nat.le_refl _) (by omega) (by simp; omega)
      rw [List.length_nil, Nat.zero_add, Int.toNat_of_nonneg (by omega)] at this
      exact this
end

theorem ref_i16 (b : List Int) (hb : b.all byteB = true) (hl : b.length ≤ 1000000) (a : Nat) (ha : a ≤ 2000000) : Ev (fun k => foundryref04_I16.f k b (a : Int)) (if a + 2 ≤ b.length then (valC b 1 a, true) else (0, false)) := by
  have h := ref_u16 b hb hl a ha
  unfold foundryref04_I16.f
  obtain ⟨K, h⟩ := h
  refine ⟨K, fun k hk => ?_⟩
  have h1 := h k hk
  obtain ⟨t, ht, he⟩ := Option.bind_eq_some_iff.1 h1
  injection he with he
  show Option.bind (foundryref04_number.f k b (a : Int) 2) _ = _
  rw [ht, Option.bind_some]
  have ht1 : t = if a + 2 ≤ b.length then (256 * rd b (a : Int) + rd b ((a : Int) + 1), true) else (0, false) := by rw [← he]
  subst ht1
  by_cases hs : a + 2 ≤ b.length
  · simp only [if_pos hs]
    have hv := byte_rd hb (show a < b.length by omega)
    have hv2 := byte_rd1 hb (show a + 1 < b.length by omega)
    have hval : valC b 1 a = if 256 * rd b (a : Int) + rd b ((a : Int) + 1) ≥ 32768 then 256 * rd b (a : Int) + rd b ((a : Int) + 1) - 65536 else 256 * rd b (a : Int) + rd b ((a : Int) + 1) := by
      unfold valC
      rw [if_neg (show ¬ (1 : Int) = 0 by omega), if_pos rfl]
    rw [hval]
    split
    · rw [wrapIn _ (by omega) (by omega)]
    · rfl
  · simp only [if_neg hs]
    rw [if_neg (by omega)]

section
variable {b : List Int} (hb : b.all byteB = true) (hl : b.length ≤ 1000000)
include hb hl
theorem RC_run (N : Int) (c : Int) (hc0 : 0 ≤ c) (hc1 : c < 192) : ∀ (m a : Nat) (L : List Int), m ≤ cntC c → a ≤ b.length → L.length + m ≤ 40000 → ∀ res,
    (match runC b (c / 64) m a with | none => res = (([] : List Int), (0 : Int), (2 : Int)) | some r => Ev (fun k => foundryref11_ReadChanges.l0 k b N (L ++ r.1) (r.2 : Int)) res) →
    Ev (fun k => foundryref11_ReadChanges.l1 k b N L (a : Int) c ((cntC c - m : Nat) : Int)) res := by
  have hcn := cntC_le c
  have htm : c.tmod 64 = (cntC c : Int) - 1 := by rw [Int.tmod_eq_emod_of_nonneg hc0]; unfold cntC; omega
  have HTM := Aside0.mk htm
  clear htm
  intro m
  induction m with
  | zero =>
    intro a L hm ha h2 res h
    simp only [runC, List.append_nil] at h
    exact Ev.step (fun k => by rw [foundryref11_ReadChanges.l1, HTM.out, if_neg (by omega)]) h
  | succ m ih =>
    intro a L hm ha h2 res h
    have hi := Aside0.mk (show wrap64 (((cntC c - (m + 1) : Nat) : Int) + 1) = ((cntC c - m : Nat) : Int) by unfold wrap64; omega)
    have hgo := Aside0.mk (fun (s : Nat) (hs : s = szC (c / 64)) (hle : a + s ≤ b.length) => show Ev (fun k => foundryref11_ReadChanges.l1 k b N (L ++ [valC b (c / 64) a]) ((a + s : Nat) : Int) c ((cntC c - m : Nat) : Int)) res by
      subst hs
      refine ih (a + szC (c / 64)) (L ++ [valC b (c / 64) a]) (by omega) hle (by simp; omega) res ?_
      simp only [runC, if_pos hle] at h
      cases hr : runC b (c / 64) m (a + szC (c / 64)) with
      | none => rw [hr] at h; simpa using h
      | some r => rw [hr] at h; simpa [List.append_assoc] using h)
    have hno := Aside0.mk (fun (hle : ¬ a + szC (c / 64) ≤ b.length) => show res = (([] : List Int), (0 : Int), (2 : Int)) by
      simp only [runC, if_neg hle] at h
      exact h)
    clear h ih
    have hLL : L.length < 17592186044416 := by omega
    obtain hq | hq | hq : c / 64 = 0 ∨ c / 64 = 1 ∨ c / 64 = 2 := by omega
    · have hu := ref_u8 b hb hl a (by omega)
      have hz : szC (c / 64) = 1 := by rw [hq]; rfl
      refine Ev.step (fun k => by rw [foundryref11_ReadChanges.l1, HTM.out, if_pos (by omega), if_pos (by omega)]) (Ev.bind hu ?_)
      by_cases hs : a < b.length
      · simp only [if_pos hs]
        have hv := byte_rd hb hs
        have e1 := Aside0.mk (show wrap64 ((a : Int) + 1) = ((a + 1 : Nat) : Int) by unfold wrap64; omega)
        by_cases h128 : rd b (a : Int) ≥ 128
        · have e2 := Aside0.mk (show wrap64 (rd b (a : Int) - 256) = valC b (c / 64) a by rw [wrapIn _ (by omega) (by omega), hq]; unfold valC; rw [if_pos rfl, if_pos h128])
          refine Ev.congr (fun k => by rw [if_pos h128, if_pos trivial, if_pos hLL, e1.out, e2.out, hi.out]) (hgo.out 1 hz.symm hs)
        · have e2 := Aside0.mk (show rd b (a : Int) = valC b (c / 64) a by rw [hq]; unfold valC; rw [if_pos rfl, if_neg h128])
          have := hgo.out 1 hz.symm hs
          rw [← e2.out] at this
          refine Ev.congr (fun k => by rw [if_neg h128, if_pos trivial, if_pos hLL, e1.out, hi.out]) this
      · simp only [if_neg hs]
        rw [hno.out (by rw [hz]; exact hs)]
        refine Ev.congr (fun k => by rw [if_neg (show ¬ (0 : Int) ≥ 128 by omega), if_neg (by simp)]) (Ev.now _)
    · have hu := ref_i16 b hb hl a (by omega)
      have hz : szC (c / 64) = 2 := by rw [hq]; rfl
      refine Ev.step (fun k => by rw [foundryref11_ReadChanges.l1, HTM.out, if_pos (by omega), if_neg (by omega), if_pos (by omega)]) (Ev.bind hu ?_)
      by_cases hs : a + 2 ≤ b.length
      · simp only [if_pos hs]
        have e1 := Aside0.mk (show wrap64 ((a : Int) + 2) = ((a + 2 : Nat) : Int) by unfold wrap64; omega)
        have := hgo.out 2 hz.symm hs
        rw [hq] at this
        refine Ev.congr (fun k => by rw [if_pos trivial, if_pos hLL, e1.out, hi.out]) this
      · simp only [if_neg hs]
        rw [hno.out (by rw [hz]; exact hs)]
        refine Ev.congr (fun k => by rw [if_neg (by simp)]) (Ev.now _)
    · have hz : szC (c / 64) = 0 := by rw [hq]; rfl
      have := hgo.out 0 hz.symm (by omega)
      rw [show valC b (c / 64) a = 0 by rw [hq]; rfl, Nat.add_zero] at this
      exact Ev.step (fun k => by rw [foundryref11_ReadChanges.l1, HTM.out, if_pos (by omega), if_neg (by omega), if_neg (by omega), if_pos hLL, hi.out]) this

theorem RC_all : ∀ (f n a : Nat) (L : List Int), n ≤ f → a ≤ b.length → L.length + n ≤ 40000 →
    Ev (fun k => foundryref11_ReadChanges.l0 k b ((L.length + n : Nat) : Int) L (a : Int)) (endC L (readC b f n a)) := by
  intro f
  induction f with
  | zero =>
    intro n a L hn ha h2
    have : n = 0 := by omega
    subst this
    simp only [readC, if_pos, endC, List.append_nil, Nat.add_zero]
    exact Ev.step (fun k => by rw [foundryref11_ReadChanges.l0, if_neg (by omega)]) (Ev.now _)
  | succ f ih =>
    intro n a L hn ha h2
    by_cases hz : n = 0
    · subst hz
      simp only [readC, if_pos, endC, List.append_nil, Nat.add_zero]
      exact Ev.step (fun k => by rw [foundryref11_ReadChanges.l0, if_neg (by omega)]) (Ev.now _)
    · have hu := ref_u8 b hb hl a (by omega)
      simp only [readC, if_neg hz]
      refine Ev.step (fun k => by rw [foundryref11_ReadChanges.l0, if_pos (by omega)]) (Ev.bind hu ?_)
      have hbad : ∀ c a' : Int, Ev (fun k => foundryref11_ReadChanges.j2 k b ((L.length + n : Nat) : Int) L a' c true) (endC L none) := fun c a' =>
        Ev.step (f := fun _ => some (endC L none)) (fun k => by rw [foundryref11_ReadChanges.j2, if_pos rfl]; rfl) (Ev.now _)
      by_cases hs : a < b.length
      · simp only [if_pos hs]
        have hc := byte_rd hb hs
        have hcn := cntC_le (rd b (a : Int))
        have e1 := Aside0.mk (show wrap64 ((a : Int) + 1) = ((a + 1 : Nat) : Int) by unfold wrap64; omega)
        have e2 := Aside0.mk (show wrap64 ((rd b (a : Int)).tmod 64 + 1) = (cntC (rd b (a : Int)) : Int) by
          rw [Int.tmod_eq_emod_of_nonneg hc.1]; unfold wrap64 cntC; omega)
        have e3 := Aside0.mk (show wrap64 (((L.length + n : Nat) : Int) - (L.length : Int)) = (n : Int) by unfold wrap64; omega)
        by_cases h192 : rd b (a : Int) ≥ 192
        · rw [if_neg (by omega)]
          exact Ev.congr (fun k => by rw [if_pos trivial, if_pos h192]) (hbad _ _)
        · by_cases hg : cntC (rd b (a : Int)) ≤ n
          · rw [if_pos ⟨hs, by omega, hg⟩]
            refine Ev.congr (fun k => by rw [if_pos trivial, if_neg h192, e1.out, e2.out, e3.out]) ?_
            refine Ev.step (fun k => by rw [foundryref11_ReadChanges.j2, if_neg (by simp; omega)]) ?_
            have := RC_run hb hl ((L.length + n : Nat) : Int) (rd b (a : Int)) hc.1 (by omega) (cntC (rd b (a : Int))) (a + 1) L (by omega) (by omega) (by omega)
            rw [Nat.sub_self] at this
            refine this _ ?_
            cases hr : runC b (rd b (a : Int) / 64) (cntC (rd b (a : Int))) (a + 1) with
            | none => rfl
            | some r =>
              have hr1 := runC_len (by omega) hr
              have hi := ih (n - cntC (rd b (a : Int))) r.2 (L ++ r.1) (by omega) hr1.2 (by rw [List.length_append, hr1.1]; omega)
              rw [List.length_append, hr1.1, show L.length + cntC (rd b (a : Int)) + (n - cntC (rd b (a : Int))) = L.length + n by omega] at hi
              simp only []
              have e : endC L ((readC b f (n - cntC (rd b (a : Int))) r.2).map fun q => (r.1 ++ q.1, q.2)) = endC (L ++ r.1) (readC b f (n - cntC (rd b (a : Int))) r.2) := by
                cases readC b f (n - cntC (rd b (a : Int))) r.2 with
                | none => rfl
                | some q => simp [endC, List.append_assoc]
              rw [e]
              exact hi
          · rw [if_neg (by omega)]
            refine Ev.congr (fun k => by rw [if_pos trivial, if_neg h192, e1.out, e2.out, e3.out, show decide ((cntC (rd b (a : Int)) : Int) > (n : Int)) = true by simp; omega]) (hbad _ _)
      · simp only [if_neg hs]
        rw [if_neg (by omega)]
        exact Ev.congr (fun k => by rw [if_neg (by simp)]) (hbad _ _)
theorem RC_tell (n : Int) : Ev (fun k => foundryref11_ReadChanges.f k b n) (tellC b n) := by
  unfold foundryref11_ReadChanges.f tellC
  by_cases h0 : n < 0
  · simp only [if_pos h0, if_pos (show n < 0 ∨ 2000 < n from .inl h0)]
    exact Ev.step (fun k => by rw [foundryref11_ReadChanges.j0, if_pos rfl]) (Ev.now _)
  · simp only [if_neg h0]
    by_cases h1 : n > 2000
    · rw [show decide (n > 2000) = true by simpa using h1, if_pos (show n < 0 ∨ 2000 < n from .inr h1)]
      exact Ev.step (fun k => by rw [foundryref11_ReadChanges.j0, if_pos rfl]) (Ev.now _)
    · rw [show decide (n > 2000) = false by simpa using h1, if_neg (show ¬ (n < 0 ∨ 2000 < n) by omega)]
      refine Ev.step (fun k => by rw [foundryref11_ReadChanges.j0, if_neg (by simp)]) ?_
      have := RC_all hb hl n.toNat n.toNat 0 [] (Nat.le_refl _) (by omega) (by simp; omega)
      rw [List.length_nil, Nat.zero_add, Int.toNat_of_nonneg (by omega)] at this
      exact this
end

theorem ref_sort (x : Int) : foundryref11_sort.f x = some (kindOf x) := by
  unfold foundryref11_sort.f kindOf
  by_cases h0 : x = 0
  · rw [if_pos h0, if_pos h0]
  · rw [if_neg h0, if_neg h0]
    by_cases h1 : x < -128
    · rw [if_pos h1, if_pos (.inl h1)]
    · rw [if_neg h1]
      by_cases h2 : x > 127
      · rw [if_pos h2, if_pos (.inr h2)]
      · rw [if_neg h2, if_neg (by omega)]
theorem R_changes (l : List Int) (hl : l.length ≤ 1000000) : Ev (fun k => foundryref11_changes.f k l) (l.all inC && decide (l.length ≤ 2000)) := by
  unfold foundryref11_changes.f
  have main : ∀ n j : Nat, j + n = l.length → (∀ i : Nat, i < j → inC (rd l (i : Int)) = true) → Ev (fun k => foundryref11_changes.l0 k l (j : Int)) (l.all inC && decide (l.length ≤ 2000)) := by
    intro n
    induction n with
    | zero =>
      intro j hj hu
      refine Ev.step (fun k => by rw [foundryref11_changes.l0, if_neg (by omega)]) ?_
      have : l.all inC = true := by
        rw [List.all_eq_true]
        intro x hx
        obtain ⟨i, hi, rfl⟩ := List.getElem_of_mem hx
        have := hu i (by omega)
        simpa [rd, hi] using this
      rw [this, Bool.true_and, show decide (l.length ≤ 2000) = decide ((l.length : Int) ≤ 2000) by congr 1; simp; omega]
      exact Ev.now _
    | succ n ih =>
      intro j hj hu
      have hlt : j < l.length := by omega
      have e := Aside0.mk (show wrap64 ((j : Int) + 1) = ((j + 1 : Nat) : Int) by unfold wrap64; omega)
      have hbad : inC (rd l (j : Int)) = false → (l.all inC && decide (l.length ≤ 2000)) = false := fun h => by
        rw [Bool.and_eq_false_iff]; left
        rw [Bool.eq_false_iff]
        intro h2
        have := List.all_eq_true.1 h2 _ (rd_in hlt)
        rw [this] at h; cases h
      by_cases h1 : rd l (j : Int) < -32768
      · rw [hbad (by simp [inC]; omega)]
        exact Ev.step (fun k => by rw [foundryref11_changes.l0, if_pos (by omega), if_pos (by omega), if_pos h1]) (Ev.now _)
      · by_cases h2 : rd l (j : Int) > 32767
        · rw [hbad (by simp [inC]; omega)]
          exact Ev.step (fun k => by rw [foundryref11_changes.l0, if_pos (by omega), if_pos (by omega), if_neg h1, if_pos h2]) (Ev.now _)
        · exact Ev.step (fun k => by rw [foundryref11_changes.l0, if_pos (by omega), if_pos (by omega), if_neg h1, if_neg h2, e.out]) (ih (j + 1) (by omega) (fun i hi => by
            rcases Nat.lt_or_ge i j with h | h
            · exact hu i h
            · rw [show i = j by omega]; simp [inC]; omega))
  exact main l.length 0 (by omega) (fun i hi => by omega)
theorem hdr_wrapC (w i e n : Int) (hw : w = 0 ∨ w = 1 ∨ w = 2) (hi0 : 0 ≤ i) (hi1 : i ≤ 1000000) (he : e = i + n) (hn0 : 1 ≤ n) (hn1 : n ≤ 64) : wrap64 (wrap64 (wrap64 (wrap64 (64 * w) + e) - i) - 1) % 256 = 64 * w + n - 1 := by
  subst he
  rw [wrapIn (64 * w) (by omega) (by omega), wrapIn (64 * w + (i + n)) (by omega) (by omega), wrapIn (64 * w + (i + n) - i) (by omega) (by omega), wrapIn (64 * w + (i + n) - i - 1) (by omega) (by omega)]
  omega
theorem kind012 (x : Int) : kindOf x = 0 ∨ kindOf x = 1 ∨ kindOf x = 2 := by have := kindOf_cases x; omega
def bC (k : Int) : Int → List Int := if k = 0 then b1 else if k = 1 then b2 else b0

section
variable {d : List Int} (hd : ∀ x ∈ d, -32768 ≤ x ∧ x ≤ 32767) (hl : d.length ≤ 100000)
include hd hl
theorem WC_run (i n : Nat) (hin : i + n ≤ d.length) (hn : 1 ≤ n) (K : Int) (hK : ∀ t : Nat, t < n → kindOf (rd d ((i + t : Nat) : Int)) = K) : ∀ (m : Nat) (B : List Int), m ≤ n → B.length ≤ 1000000 + 2 * (n - m) → ∀ res,
    Ev (fun k => foundryref11_Changes.l0 k d (B ++ ((d.drop (i + n - m)).take m).flatMap (bC K)) ((i + n : Nat) : Int)) res →
    n ≤ 1000 → Ev (fun k => foundryref11_Changes.l2 k d B ((i + n : Nat) : Int) ((i + n - m : Nat) : Int)) res := by
  intro m
  induction m with
  | zero =>
    intro B hm hB res h hn2
    rw [List.take_zero, List.flatMap_nil, List.append_nil] at h
    exact Ev.step (fun k => by rw [foundryref11_Changes.l2, if_neg (by omega)]) h
  | succ m ih =>
    intro B hm hB res h hn2
    have hj := hd _ (rd_in (l := d) (j := i + n - (m + 1)) (by omega))
    have hk := hK (n - (m + 1)) (by omega)
    rw [show i + (n - (m + 1)) = i + n - (m + 1) by omega] at hk
    have e1 := Aside0.mk (show wrap64 (((i + n - (m + 1) : Nat) : Int) + 1) = ((i + n - m : Nat) : Int) by unfold wrap64; omega)
    have hsplit : (d.drop (i + n - (m + 1))).take (m + 1) = rd d ((i + n - (m + 1) : Nat) : Int) :: (d.drop (i + n - m)).take m := by
      rw [List.drop_eq_getElem_cons (by omega), List.take_succ_cons, show i + n - (m + 1) + 1 = i + n - m by omega]
      simp [rd, show i + n - (m + 1) < d.length by omega]
    rw [hsplit, List.flatMap_cons, ← List.append_assoc] at h
    obtain ⟨x, hx⟩ : ∃ x, rd d ((i + n - (m + 1) : Nat) : Int) = x := ⟨_, rfl⟩
    rw [hx] at h hj hk
    have hlen : ∀ y, (bC K y).length ≤ 2 := fun y => by unfold bC; split <;> (try split) <;> simp [b0, b1, b2]
    have hnext := Aside0.mk (ih (B ++ bC K x) (by omega) (by have := hlen x; rw [List.length_append]; omega) res h hn2)
    clear h ih
    rcases kind012 x with hw | hw | hw
    · have e2 := Aside0.mk (show ((wrap64 (x + 256)).tmod 256) % 256 = x % 256 by
        have := kindOf_cases x
        rw [wrapIn _ (by omega) (by omega), Int.tmod_eq_emod_of_nonneg (by omega)]; omega)
      have hb : bC K x = [x % 256] := by rw [← hk, hw]; rfl
      rw [hb] at hnext
      refine Ev.step (fun k => by rw [foundryref11_Changes.l2, if_pos (by omega), if_pos (by omega), if_pos (by omega), ref_sort, Option.bind_some, hx, hw, if_pos rfl, if_pos (by omega), e2.out]) ?_
      exact Ev.step (fun k => by rw [foundryref11_Changes.j4, ref_sort, Option.bind_some, hw, if_neg (by omega), e1.out]) hnext.out
    · have hy : 0 ≤ (wrap64 (x + 65536)).tmod 65536 ∧ (wrap64 (x + 65536)).tmod 65536 ≤ 65535 ∧ b2 ((wrap64 (x + 65536)).tmod 65536) = b2 x := by
        rw [wrapIn _ (by omega) (by omega), Int.tmod_eq_emod_of_nonneg (by omega)]
        refine ⟨by omega, by omega, ?_⟩
        unfold b2
        rw [show (x + 65536) % 65536 / 256 % 256 = x / 256 % 256 by omega, show (x + 65536) % 65536 % 256 = x % 256 by omega]
      have HY := Aside0.mk hy
      clear hy
      have hb : bC K x = b2 x := by rw [← hk, hw]; rfl
      rw [hb] at hnext
      refine Ev.step (fun k => by rw [foundryref11_Changes.l2, if_pos (by omega), if_pos (by omega), if_pos (by omega), ref_sort, Option.bind_some, hx, hw, if_neg (by omega)]) ?_
      refine Ev.step (fun k => by rw [foundryref11_Changes.j4, ref_sort, Option.bind_some, hw, if_pos rfl]) (Ev.bind (big2 _ HY.out.1 HY.out.2.1) ?_)
      refine Ev.congr (fun k => ?_) hnext.out
      rw [HY.out.2.2, if_pos (by simp [b2]; omega), e1.out]
    · have hb : bC K x = [] := by rw [← hk, hw]; rfl
      rw [hb, List.append_nil] at hnext
      refine Ev.step (fun k => by rw [foundryref11_Changes.l2, if_pos (by omega), if_pos (by omega), if_pos (by omega), ref_sort, Option.bind_some, hx, hw, if_neg (by omega)]) ?_
      exact Ev.step (fun k => by rw [foundryref11_Changes.j4, ref_sort, Option.bind_some, hw, if_neg (by omega), e1.out]) hnext.out

omit hd in
theorem WC_end (i n : Nat) (hi : i < d.length) (hrun : Run kindOf 64 (d.drop i) n) (B : List Int) (res : List Int × Int) (h : Ev (fun k => foundryref11_Changes.j2 k d B (i : Int) ((i + n : Nat) : Int)) res) :
    ∀ m t : Nat, t + m = n → Ev (fun k => foundryref11_Changes.l1 k d B (i : Int) ((i + t : Nat) : Int)) res := by
  have h1 := hrun.one
  have h2 := hrun.len
  have h3 := hrun.long
  rw [List.length_drop] at h2
  have e1 := Aside0.mk (show wrap64 ((i : Int) + 64) = (i : Int) + 64 by unfold wrap64; omega)
  have hat : ∀ t : Nat, rd (d.drop i) (t : Int) = rd d ((i + t : Nat) : Int) := fun t => rd_drop d i t
  have hat0 : rd (d.drop i) 0 = rd d (i : Int) := by have := hat 0; simpa using this
  intro m
  induction m with
  | zero =>
    intro t ht
    have : t = n := by omega
    subst this
    by_cases hlt : i + t < d.length
    · by_cases hlong : t = 64
      · exact Ev.step (fun k => by rw [foundryref11_Changes.l1, if_pos (by omega), e1.out, if_neg (by omega)]) h
      · rcases hrun.most with hm | hm | hm
        · rw [List.length_drop] at hm; omega
        · omega
        · rw [hat, hat0] at hm
          exact Ev.step (fun k => by rw [foundryref11_Changes.l1, if_pos (by omega), e1.out, if_pos (by omega), if_pos (by omega), ref_sort, Option.bind_some, if_pos (by omega), if_pos (by omega), ref_sort, Option.bind_some, if_neg hm]) h
    · exact Ev.step (fun k => by rw [foundryref11_Changes.l1, if_neg (by omega)]) h
  | succ m ih =>
    intro t ht
    have hal := hrun.alike t (by omega)
    rw [hat, hat0] at hal
    have e2 := Aside0.mk (show wrap64 (((i + t : Nat) : Int) + 1) = ((i + (t + 1) : Nat) : Int) by unfold wrap64; omega)
    exact Ev.step (fun k => by rw [foundryref11_Changes.l1, if_pos (by omega), e1.out, if_pos (by omega), if_pos (by omega), ref_sort, Option.bind_some, if_pos (by omega), if_pos (by omega), ref_sort, Option.bind_some, if_pos hal, e2.out]) (ih (t + 1) (by omega))

theorem WC_all : ∀ (m i : Nat) (B : List Int), d.length - i ≤ m → i ≤ d.length → B.length ≤ 3 * i + 2 → Ev (fun k => foundryref11_Changes.l0 k d B (i : Int)) (B ++ packs kindOf 64 encC (d.drop i), 0) := by
  intro m
  induction m with
  | zero =>
    intro i B hm hi hB
    rw [List.drop_eq_nil_of_le (by omega), packs_nil, List.append_nil]
    exact Ev.step (fun k => by rw [foundryref11_Changes.l0, if_neg (by omega)]) (Ev.now _)
  | succ m ih =>
    intro i B hm hi hB
    by_cases hlt : i < d.length
    · obtain ⟨n, hn⟩ : ∃ n, runLen kindOf 64 (d.drop i) = n := ⟨_, rfl⟩
      have hrun : Run kindOf 64 (d.drop i) n := hn ▸ runLen_run (by omega) (by rw [List.length_drop]; omega)
      have h1 := hrun.one
      have h2 := hrun.len
      have h3 := hrun.long
      rw [List.length_drop] at h2
      have hat0 : rd (d.drop i) 0 = rd d (i : Int) := by have := rd_drop d i 0; simpa using this
      obtain ⟨K, hKK⟩ : ∃ K, kindOf (rd d (i : Int)) = K := ⟨_, rfl⟩
      have hK : ∀ t : Nat, t < n → kindOf (rd d ((i + t : Nat) : Int)) = K := fun t ht => by
        have := hrun.alike t ht
        rw [rd_drop, hat0, hKK] at this
        exact this
      refine Ev.step (fun k => by rw [foundryref11_Changes.l0, if_pos (by omega)]) ?_
      have := WC_end hl i n hlt hrun B (B ++ packs kindOf 64 encC (d.drop i), 0) ?_ n 0 (by omega)
      · rw [Nat.add_zero] at this
        exact this
      · have hx := Aside0.mk (hdr_wrapC K (i : Int) ((i + n : Nat) : Int) (n : Int) (hKK ▸ kind012 _) (by omega) (by omega) (by omega) (by omega) (by omega))
        refine Ev.step (fun k => by rw [foundryref11_Changes.j2, if_pos (by omega), if_pos (by omega), ref_sort, Option.bind_some, if_pos (by omega), hKK, hx.out]) ?_
        have hW := WC_run hd hl i n (by omega) h1 K hK n (B ++ [64 * K + (n : Int) - 1]) (Nat.le_refl _) (by simp; omega) (B ++ packs kindOf 64 encC (d.drop i), 0)
        rw [show i + n - n = i by omega] at hW
        refine hW ?_ (by omega)
        have hfl := flat_len (bC K) 2 (fun y => by unfold bC; split <;> (try split) <;> simp [b0, b1, b2]) ((d.drop i).take n)
        have hih := ih (i + n) (B ++ [64 * K + (n : Int) - 1] ++ ((d.drop i).take n).flatMap (bC K)) (by omega) (by omega) (by
          rw [List.length_take, List.length_drop] at hfl
          simp only [List.length_append, List.length_cons, List.length_nil]
          omega)
        rw [packs_step (by omega) hrun, hat0, List.drop_drop, hKK]
        rw [show B ++ (encC K ((d.drop i).take n) ++ packs kindOf 64 encC (d.drop (i + n))) = B ++ [64 * K + (n : Int) - 1] ++ ((d.drop i).take n).flatMap (bC K) ++ packs kindOf 64 encC (d.drop (i + n)) by
          have : (((d.drop i).take n).length : Int) = (n : Int) := by rw [List.length_take, List.length_drop]; omega
          unfold encC bC
          rw [this]
          simp]
        exact hih
    · rw [List.drop_eq_nil_of_le (by omega), packs_nil, List.append_nil]
      exact Ev.step (fun k => by rw [foundryref11_Changes.l0, if_neg (by omega)]) (Ev.now _)
end

theorem ref_changes (l : List Int) (hl : l.length ≤ 1000000) : ∃ r, packed_Changes.f l = some r ∧ Ev (fun k => foundryref11_Changes.f k l) r := by
  unfold packed_Changes.f
  refine ⟨_, rfl, ?_⟩
  unfold foundryref11_Changes.f
  refine Ev.bind (R_changes l hl) ?_
  by_cases hg : l.all inC = true ∧ l.length ≤ 2000
  · simp only [hg.1, hg.2, decide_true, Bool.and_self, if_true, if_pos hg, and_self]
    have hA := WC_all (d := l) (fun x hx => by have := List.all_eq_true.1 hg.1 x hx; simpa [inC] using this) (by omega) l.length 0 [] (by omega) (by omega) (by simp)
    rw [List.drop_zero, List.nil_append] at hA
    exact hA
  · rw [if_neg hg]
    have : (l.all inC && decide (l.length ≤ 2000)) = false := by
      rw [Bool.eq_false_iff]
      intro h
      simp only [Bool.and_eq_true, decide_eq_true_eq] at h
      exact hg h
    simp only [this, Bool.false_eq_true, if_false]
    exact Ev.now _

end Go.Proofs.Ytmppdgjnibamlaa.Pure
