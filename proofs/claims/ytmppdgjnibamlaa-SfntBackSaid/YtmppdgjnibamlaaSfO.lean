/- The order of tags. Plain. -/
import Derived.Test.YtmppdgjnibamlaaSfF
namespace Go.Proofs.Ytmppdgjnibamlaa.Pag
open Go.RowKit Go.Proofs.Ytmppdgjnibamlaa.PSf Go.Proofs.YtmppdgjnibamlaaW.PrintWords

theorem bl_cons (a b : UInt8) (x y : List UInt8) : Op.bytesLess (a :: x) (b :: y) = (decide (a.toNat < b.toNat) || (decide (a.toNat = b.toNat) && Op.bytesLess x y)) := by
  rw [Op.bytesLess]
  by_cases h1 : a.toNat < b.toNat
  · simp [h1, UInt8.lt_iff_toNat_lt]
  · by_cases h2 : a.toNat = b.toNat
    · have : a = b := UInt8.toNat_inj.1 h2
      subst this; simp
    · have : a ≠ b := fun h => h2 (by rw [h])
      simp [h1, h2, this, UInt8.lt_iff_toNat_lt]
theorem bl_irrefl : ∀ x : List UInt8, Op.bytesLess x x = false
  | [] => by rw [Op.bytesLess]
  | a :: x => by rw [bl_cons, bl_irrefl x]; simp
theorem bl_trans : ∀ x y z : List UInt8, Op.bytesLess x y = true → Op.bytesLess y z = true → Op.bytesLess x z = true
  | [], [], z, h, _ => by simp [Op.bytesLess] at h
  | [], _ :: _, [], _, h => by simp [Op.bytesLess] at h
  | [], _ :: _, _ :: _, _, _ => by simp [Op.bytesLess]
  | _ :: _, [], z, h, _ => by simp [Op.bytesLess] at h
  | _ :: _, _ :: _, [], _, h => by simp [Op.bytesLess] at h
  | a :: x, b :: y, c :: z, h1, h2 => by
    rw [bl_cons] at *
    simp only [Bool.or_eq_true, Bool.and_eq_true, decide_eq_true_eq] at *
    rcases h1 with h1 | ⟨h1, h3⟩ <;> rcases h2 with h2 | ⟨h2, h4⟩
    · exact .inl (by omega)
    · exact .inl (by omega)
    · exact .inl (by omega)
    · exact .inr ⟨by omega, bl_trans x y z h3 h4⟩
theorem bl_tri : ∀ x y : List UInt8, Op.bytesLess x y = false → Op.bytesLess y x = false → x = y
  | [], [], _, _ => rfl
  | [], _ :: _, h, _ => by simp [Op.bytesLess] at h
  | _ :: _, [], _, h => by simp [Op.bytesLess] at h
  | a :: x, b :: y, h1, h2 => by
    rw [bl_cons] at *
    simp only [Bool.or_eq_false_iff, Bool.and_eq_false_iff, decide_eq_false_iff_not] at *
    have e : a.toNat = b.toNat := by omega
    rw [UInt8.toNat_inj.1 e, bl_tri x y (by rcases h1.2 with h | h; exact absurd e h; exact h) (by rcases h2.2 with h | h; exact absurd e.symm h; exact h)]
/-- Does one tag stand before another? -/
def bef (a b : ByteArray) : Bool := Op.bytesLess a.toList b.toList
theorem toList_inj {a b : ByteArray} (h : a.toList = b.toList) : a = b := by
  rw [ByteArray.toList_eq, ByteArray.toList_eq] at h
  exact ByteArray.ext (Array.toList_inj.1 h)
theorem bef_irrefl (a : ByteArray) : bef a a = false := bl_irrefl _
theorem bef_trans {a b c : ByteArray} (h1 : bef a b = true) (h2 : bef b c = true) : bef a c = true := bl_trans _ _ _ h1 h2
theorem bef_tri {a b : ByteArray} (h1 : bef a b = false) (h2 : bef b a = false) : a = b := toList_inj (bl_tri _ _ h1 h2)
theorem bef_ntrans {a b c : ByteArray} (h1 : bef a b = false) (h2 : bef b c = false) : bef a c = false := by
  cases h : bef a c with
  | false => rfl
  | true =>
    cases h3 : bef b a with
    | true => exact absurd (bef_trans h3 h) (by rw [h2]; simp)
    | false => rw [bef_tri h1 h3, h2] at h; cases h
/-- The tables by their tags. -/
def ins (x : S72) : List S72 → List S72
  | [] => [x]
  | y :: r => if bef y.f0 x.f0 = true then y :: ins x r else x :: y :: r
def sortT (l : List S72) : List S72 := l.foldr ins []
theorem ins_perm (x : S72) : ∀ l, (ins x l).Perm (x :: l)
  | [] => List.Perm.refl _
  | y :: r => by
    unfold ins
    split
    · exact ((ins_perm x r).cons y).trans (List.Perm.swap x y r)
    · exact List.Perm.refl _
theorem sortT_perm : ∀ l, (sortT l).Perm l
  | [] => List.Perm.refl _
  | x :: r => (ins_perm x _).trans ((sortT_perm r).cons x)
theorem ins_sorted (x : S72) : ∀ l, l.Pairwise (fun a b => bef b.f0 a.f0 = false) → (ins x l).Pairwise (fun a b => bef b.f0 a.f0 = false)
  | [], _ => by simp [ins]
  | y :: r, h => by
    obtain ⟨h1, h2⟩ := List.pairwise_cons.1 h
    unfold ins
    split
    · rename_i hb
      refine List.pairwise_cons.2 ⟨fun z hz => ?_, ins_sorted x r h2⟩
      rcases List.mem_cons.1 ((ins_perm x r).mem_iff.1 hz) with rfl | hz
      · cases hq : bef z.f0 y.f0 with
        | false => rfl
        | true => exact absurd (bef_trans hb hq) (by rw [bef_irrefl]; simp)
      · exact h1 z hz
    · rename_i hb
      have hb' : bef y.f0 x.f0 = false := by simpa using hb
      refine List.pairwise_cons.2 ⟨fun z hz => ?_, h⟩
      rcases List.mem_cons.1 hz with rfl | hz
      · exact hb'
      · exact bef_ntrans (h1 z hz) hb'
theorem sortT_sorted : ∀ l, (sortT l).Pairwise (fun a b => bef b.f0 a.f0 = false)
  | [] => List.Pairwise.nil
  | x :: r => ins_sorted x _ (sortT_sorted r)
/-- The tags differ. -/
def apart (l : List S72) : Prop := l.Pairwise (fun a b => a.f0 ≠ b.f0)
theorem apart_eq {l : List S72} (h : apart l) {a b : S72} (ha : a ∈ l) (hb : b ∈ l) (e : a.f0 = b.f0) : a = b := by
  induction l with
  | nil => cases ha
  | cons x r ih =>
    obtain ⟨h1, h2⟩ := List.pairwise_cons.1 h
    rcases List.mem_cons.1 ha with ea | ha' <;> rcases List.mem_cons.1 hb with eb | hb'
    · rw [ea, eb]
    · exact absurd (ea ▸ e) (h1 b hb')
    · exact absurd (eb ▸ e.symm) (h1 a ha')
    · exact ih h2 ha' hb'
/-- There is but one rising order of tables whose tags differ. -/
theorem sorted_eq {l m : List S72} (hp : m.Perm l) (hm : m.Pairwise (fun a b => bef b.f0 a.f0 = false)) (ha : apart l) : m = sortT l := by
  refine List.Perm.eq_of_pairwise (le := fun a b => bef b.f0 a.f0 = false) (fun a b h1 h2 h3 h4 => ?_) hm (sortT_sorted l) (hp.trans (sortT_perm l).symm)
  exact apart_eq ha (hp.mem_iff.1 h1) ((sortT_perm l).mem_iff.1 h2) (bef_tri h4 h3)
theorem fm_apart {l : List S72} (h : fm l = true) : apart l := by
  simp only [fm, Bool.and_eq_true, List.all_eq_true, List.mem_range] at h
  unfold apart
  rw [List.pairwise_iff_getElem]
  intro i j hi hj hij e
  have h1 := h.1.1 j hj
  simp only [fmAt, Bool.and_eq_true, Bool.not_eq_true'] at h1
  have h2 : inB (tagsTo l j) (rd_T72 l (j : Int)).f0 = true := by
    rw [inB_iff]
    have e2 : rd_T72 l (j : Int) = l[j] := by simp [rd_T72, hj]
    rw [e2, ← e]
    unfold tagsTo
    refine List.mem_map.2 ⟨l[i], ?_, rfl⟩
    rw [List.mem_take_iff_getElem]
    exact ⟨i, by omega, rfl⟩
  rw [h2] at h1
  simp at h1
end Go.Proofs.Ytmppdgjnibamlaa.Pag
