/- What was packed is unpacked: plain. -/
import Derived.Test.YtmppdgjnibamlaaSfU
namespace Go.Proofs.Ytmppdgjnibamlaa.Pag
open Go.RowKit Go.Proofs.Ytmppdgjnibamlaa.PSf Go.Proofs.YtmppdgjnibamlaaW.PrintWords
set_option linter.unusedVariables false
set_option linter.unusedSimpArgs false

theorem be_two (x : Int) : be x 2 = [x / 256 % 256, x % 256] := by simp [be, List.range_succ]
theorem be_four (x : Int) : be x 4 = [x / 16777216 % 256, x / 65536 % 256, x / 256 % 256, x % 256] := by simp [be, List.range_succ]
theorem num_two {x : Int} (h0 : 0 ≤ x) (h1 : x < 65536) : numBE (be x 2) = x := by rw [be_two]; simp only [numBE, List.foldl_cons, List.foldl_nil]; omega
theorem num_four {x : Int} (h0 : 0 ≤ x) (h1 : x < 4294967296) : numBE (be x 4) = x := by rw [be_four]; simp only [numBE, List.foldl_cons, List.foldl_nil]; omega
theorem be_inj {x y : Int} (h0 : 0 ≤ x) (h1 : x < 4294967296) (h2 : 0 ≤ y) (h3 : y < 4294967296) (h : be x 4 = be y 4) : x = y := by rw [← num_four h0 h1, h, num_four h2 h3]
theorem str_bytes (s : ByteArray) : strOfNums (bytesOf s) = s := by
  apply toList_inj
  rw [Lib.strOfNums_toList, ByteArray.toList_eq]
  unfold Lib.bytesOf bytesOf
  rw [List.map_map]
  conv => rhs; rw [← List.map_id s.data.toList]
  apply List.map_congr_left
  intro u _
  simp
/-- A field that stands there is read. -/
theorem field_at {b P R : List Int} {x : Int} {a : Int} (hb : b = P ++ (be x 4 ++ R)) (ha : a = (P.length : Int)) (h0 : 0 ≤ x) (h1 : x < 4294967296) : fieldP b a 4 = (x, true) := by
  subst hb ha
  unfold fieldP
  rw [if_neg (by simp [be_len]; omega), Int.toNat_natCast, List.drop_left, List.take_left' (by rw [be_len]; rfl), num_four h0 h1]
theorem field_at2 {b P R : List Int} {x : Int} {a : Int} (hb : b = P ++ (be x 2 ++ R)) (ha : a = (P.length : Int)) (h0 : 0 ≤ x) (h1 : x < 65536) : fieldP b a 2 = (x, true) := by
  subst hb ha
  unfold fieldP
  rw [if_neg (by simp [be_len]; omega), Int.toNat_natCast, List.drop_left, List.take_left' (by rw [be_len]; rfl), num_two h0 h1]
theorem tag_at {b P R : List Int} {s : ByteArray} {a : Int} (hb : b = P ++ (bytesOf s ++ R)) (ha : a = (P.length : Int)) (hg : good s = true) : tagP b a = (s, true) := by
  subst hb ha
  unfold tagP
  rw [if_neg (by simp [bytesOf_four hg]; omega), Int.toNat_natCast, List.drop_left, List.take_left' (bytesOf_four hg), str_bytes, if_pos hg]

def tabs : List S72 → List Int → List S72
  | [], _ => []
  | t :: r, Y => ⟨t.f0, Y.take t.f1.length⟩ :: tabs r (Y.drop (t.f1.length + padN t.f1.length 4))
def rising (m : List S72) : Prop := m.Pairwise (fun a b => bef a.f0 b.f0 = true)
theorem bodL_cons_len (t : S72) (r : List S72) : (bodL (t :: r)).length = t.f1.length + padN t.f1.length 4 + (bodL r).length := by
  simp only [bodL, List.length_append, pads, List.length_replicate]; omega
theorem unL_lay : ∀ (r : List S72) (i : Nat) (a : Int) (b P Z W : List Int) (acc : List S72), P.length = 12 + 16 * i → b = P ++ (dirL r a ++ Z) → 0 ≤ a → b.drop a.toNat = W → W.length = (bodL r).length → a.toNat ≤ b.length →
    (∀ t ∈ r, okT t) → a + 2000000 * (r.length : Int) ≤ 4000000000 → rising r → acc.length = i → (∀ t ∈ r, 0 < i → bef (rd_T72 acc ((i : Int) - 1)).f0 t.f0 = true) →
    unL b r.length i acc = some (acc ++ tabs r W)
  | [], i, a, b, P, Z, W, acc, _, _, _, _, _, _, _, _, _, _, _ => by simp [unL, tabs]
  | t :: r, i, a, b, P, Z, W, acc, hP, hb, h0, hW, hWl, ha', hok, ha, hri, hac, hlast => by
    have ht := hok t (by simp)
    have hs := sumB_range t.f1
    have hl := ht.2
    have hp : padN t.f1.length 4 < 4 := by unfold padN; omega
    have hf := fill4_eq t.f1.length
    simp only [List.length_cons] at ha
    rw [bodL_cons_len] at hWl
    rw [dirL] at hb
    have e1 : tagP b (12 + 16 * (i : Int)) = (t.f0, true) := tag_at (P := P) (R := be (sumB t.f1) 4 ++ (be a 4 ++ (be (t.f1.length : Int) 4 ++ dirL r (a + fill4 t.f1.length))) ++ Z) (by rw [hb]; simp [List.append_assoc]) (by rw [hP]; omega) ht.1
    have e2 : fieldP b (20 + 16 * (i : Int)) 4 = (a, true) := field_at (P := P ++ (bytesOf t.f0 ++ be (sumB t.f1) 4)) (R := be (t.f1.length : Int) 4 ++ dirL r (a + fill4 t.f1.length) ++ Z) (by rw [hb]; simp [List.append_assoc]) (by simp [hP, be_len, bytesOf_four ht.1]; omega) h0 (by omega)
    have e3 : fieldP b (24 + 16 * (i : Int)) 4 = ((t.f1.length : Int), true) := field_at (P := P ++ (bytesOf t.f0 ++ (be (sumB t.f1) 4 ++ be a 4))) (R := dirL r (a + fill4 t.f1.length) ++ Z) (by rw [hb]; simp [List.append_assoc]) (by simp [hP, be_len, bytesOf_four ht.1]; omega) (by omega) (by omega)
    have e4 : cutP b a (t.f1.length : Int) = (W.take t.f1.length, true) := by
      have hbl : b.length - a.toNat = W.length := by rw [← hW, List.length_drop]
      have hPb : a.toNat ≤ b.length → a ≤ (b.length : Int) - (t.f1.length : Int) := fun h => by omega
      unfold cutP
      rw [if_neg (by have := hPb ha'; omega), hW, Int.toNat_natCast]
    have hok1 : okP b i acc = true := by
      unfold okP
      rw [e1, e2, e3, e4]
      by_cases hi : i = 0
      · simp [hi]
      · simp [hlast t (by simp) (by omega)]
    have htab : tabP b i = ⟨t.f0, W.take t.f1.length⟩ := by unfold tabP; rw [e1, e2, e3, e4]
    rw [List.length_cons, unL, if_pos hok1, htab]
    obtain ⟨hr1, hr2⟩ := List.pairwise_cons.1 hri
    rw [unL_lay r (i + 1) (a + fill4 t.f1.length) b (P ++ (bytesOf t.f0 ++ (be (sumB t.f1) 4 ++ (be a 4 ++ be (t.f1.length : Int) 4)))) Z (W.drop (t.f1.length + padN t.f1.length 4)) _ (by simp [hP, be_len, bytesOf_four ht.1]; omega) (by rw [hb]; simp [List.append_assoc]) (by omega) (by
        rw [← hW, List.drop_drop]; congr 1; omega) (by rw [List.length_drop]; omega) (by have hbl : b.length - a.toNat = W.length := (by rw [← hW, List.length_drop]); omega) (fun t ht => hok t (by simp [ht])) (by omega) hr2 (by simp [hac]) (fun u hu _ => by
        have : rd_T72 (acc ++ [⟨t.f0, W.take t.f1.length⟩]) (((i + 1 : Nat) : Int) - 1) = ⟨t.f0, W.take t.f1.length⟩ := by
          rw [show (((i + 1 : Nat) : Int) - 1) = (i : Int) by omega]
          unfold rd_T72
          rw [Int.toNat_natCast, ← hac]; simp
        rw [this]; exact hr1 u hu)]
    simp [tabs]
theorem dirL_at {m : List S72} (h : ∀ t ∈ m, okT t) : (headL m.length ++ dirL m (12 + 16 * (m.length : Int))).length = 12 + 16 * m.length := by rw [List.length_append, headL_len, dirL_len m _ h]
/-- The tables of a file whose directory is right, whatever stands behind it. -/
theorem unpackP_lay {m : List S72} {Y : List Int} (hok : ∀ t ∈ m, okT t) (h1 : m.length ≤ 32) (hY : Y.length = (bodL m).length) (hri : rising m) :
    unpackP (headL m.length ++ dirL m (12 + 16 * (m.length : Int)) ++ Y) = endP (headL m.length ++ dirL m (12 + 16 * (m.length : Int)) ++ Y) (tabs m Y) := by
  have e1 : fieldP (headL m.length ++ dirL m (12 + 16 * (m.length : Int)) ++ Y) 4 2 = ((m.length : Int), true) :=
    field_at2 (P := be 65536 4) (R := be (16 * ((2 ^ m.length.log2 : Nat) : Int)) 2 ++ be (m.length.log2 : Int) 2 ++ be (16 * ((m.length : Int) - ((2 ^ m.length.log2 : Nat) : Int))) 2 ++ dirL m (12 + 16 * (m.length : Int)) ++ Y) (by unfold headL; simp [List.append_assoc]) (by rw [be_len]; rfl) (by omega) (by omega)
  have hl := dirL_at hok
  have e2 := unL_lay m 0 (12 + 16 * (m.length : Int)) (headL m.length ++ dirL m (12 + 16 * (m.length : Int)) ++ Y) (headL m.length) Y Y [] (by rw [headL_len]) (by simp [List.append_assoc]) (by omega) (by
    rw [show (12 + 16 * (m.length : Int)).toNat = (headL m.length ++ dirL m (12 + 16 * (m.length : Int))).length by rw [hl]; omega, List.drop_left]) hY (by rw [List.length_append, hl]; omega) hok (by omega) hri rfl (fun _ _ h => absurd h (by omega))
  unfold unpackP
  rw [e1]
  simp only [Int.toNat_natCast]
  rw [if_pos ⟨by trivial, by omega⟩, e2]
  rfl
theorem tabs_self : ∀ (m : List S72), tabs m (bodL m) = m
  | [] => rfl
  | t :: r => by
    rw [tabs, bodL, List.take_left]
    rw [← List.append_assoc, List.drop_left' (by rw [List.length_append]; simp [pads]), tabs_self r]
theorem rising_apart {m : List S72} (h : rising m) : apart m := h.imp (fun {a b} hab e => by rw [e, bef_irrefl] at hab; cases hab)
theorem rising_sort {m : List S72} (h : rising m) : sortT m = m := (sorted_eq (List.Perm.refl m) (h.imp (fun {a b} hab => by
  cases hq : bef b.f0 a.f0 with
  | false => rfl
  | true => exact absurd (bef_trans hab hq) (by rw [bef_irrefl]; simp))) (rising_apart h)).symm
theorem sort_rising {l : List S72} (h : apart l) : rising (sortT l) := by
  have h1 : apart (sortT l) := ((sortT_perm l).pairwise_iff (R := fun a b : S72 => a.f0 ≠ b.f0) (fun {a b} (h : a.f0 ≠ b.f0) => h.symm)).2 h
  have h2 := sortT_sorted l
  unfold rising
  refine List.Pairwise.imp₂ (fun {a b} hab hne => ?_) h2 h1
  cases hq : bef a.f0 b.f0 with
  | true => rfl
  | false => exact absurd (bef_tri hq hab) hne
theorem fm_intro {l : List S72} (h1 : 1 ≤ l.length) (h2 : l.length ≤ 32) (hok : ∀ t ∈ l, okT t) (ha : apart l) : fm l = true := by
  unfold fm
  rw [Bool.and_eq_true, Bool.and_eq_true, decide_eq_true_eq, decide_eq_true_eq, List.all_eq_true]
  refine ⟨⟨fun i hi => ?_, h1⟩, h2⟩
  have hi' := List.mem_range.1 hi
  have e : rd_T72 l (i : Int) = l[i] := by simp [rd_T72, hi']
  have ht := hok l[i] (List.getElem_mem hi')
  unfold fmAt
  rw [e]
  have hn : inB (tagsTo l i) l[i].f0 = false := by
    cases hb : inB (tagsTo l i) l[i].f0 with
    | false => rfl
    | true =>
      rw [inB_iff] at hb
      unfold tagsTo at hb
      obtain ⟨x, hx, e2⟩ := List.mem_map.1 hb
      obtain ⟨j, hj, rfl⟩ := List.mem_take_iff_getElem.1 hx
      exact absurd e2 ((List.pairwise_iff_getElem.1 ha) j i (by omega) hi' (by omega))
  rw [hn, ht.1]
  simpa using ht.2
theorem fm_sort {l : List S72} (h : fm l = true) : fm (sortT l) = true := by
  have hp := sortT_perm l
  refine fm_intro (by rw [sortT_len]; exact (fm_len h).1) (by rw [sortT_len]; exact (fm_len h).2.1) (fun t ht => fm_ok h t (hp.mem_iff.1 ht)) (rising_apart (sort_rising (fm_apart h)))
/-- THE ROUND TRIP. -/
theorem unpackP_of_pack {l : List S72} {b : List Int} (h : packP l = (b, 0)) : unpackP b = (sortT l, 0) := by
  unfold packP at h
  split at h
  · rename_i hm
    split at h
    · rename_i hl
      obtain rfl : lay (sortT l) = b := congrArg Prod.fst h
      have hri := sort_rising (fm_apart hm)
      have hok : ∀ t ∈ sortT l, okT t := fun t ht => fm_ok hm t ((sortT_perm l).mem_iff.1 ht)
      have e := unpackP_lay (Y := bodL (sortT l)) hok (by rw [sortT_len]; exact (fm_len hm).2.1) rfl hri
      rw [tabs_self] at e
      show unpackP (headL _ ++ dirL _ _ ++ bodL _) = _
      rw [e]
      have hp : packP (sortT l) = (lay (sortT l), 0) := by
        unfold packP
        rw [if_pos (fm_sort hm), rising_sort hri, if_pos hl]
      show endP (lay (sortT l)) (sortT l) = _
      unfold endP
      rw [hp]
      simp
    · exact absurd (show (3 : Int) = 0 from congrArg Prod.snd h) (by decide)
  · exact absurd (show (1 : Int) = 0 from congrArg Prod.snd h) (by decide)
end Go.Proofs.Ytmppdgjnibamlaa.Pag
