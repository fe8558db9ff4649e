/- What sfnt.Pack makes of formed tables: the bytes themselves. Plain. -/
import Derived.Test.YtmppdgjnibamlaaSfA
namespace Go.Proofs.Ytmppdgjnibamlaa.Pag
open Go.RowKit Go.Proofs.Ytmppdgjnibamlaa.PSf Go.Proofs.YtmppdgjnibamlaaW.PrintWords
set_option linter.unusedVariables false
set_option linter.unusedSimpArgs false

theorem be_len (x : Int) (n : Nat) : (be x n).length = n := by simp [be]
theorem over_out {fl : Bool} {B : List Int} (h : 1048576 < B.length) : over fl B = true := by simp [over]; omega
theorem over_in {B : List Int} (h : B.length ≤ 1048576) : over false B = false := by simp [over]; omega
/-- The page is what it should be, or too long, as that would be. -/
def Rs (s : St) (X : List Int) : Prop := s = (false, X) ∨ (s.1 = false ∧ 1048576 < s.2.length ∧ 1048576 < X.length)
theorem Rs.step {f : St → St} {ys : List Int} {s : St} {X : List Int} (h1 : X.length ≤ 1048576 → f (false, X) = (false, X ++ ys)) (h2 : ∀ s, 1048576 < s.2.length → f s = s) (h : Rs s X) : Rs (f s) (X ++ ys) := by
  rcases h with rfl | ⟨h3, h4, h5⟩
  · by_cases hx : X.length ≤ 1048576
    · exact .inl (h1 hx)
    · rw [h2 _ (by show 1048576 < X.length; omega)]
      exact .inr ⟨rfl, by show 1048576 < X.length; omega, by simp; omega⟩
  · rw [h2 _ h4]
    exact .inr ⟨h3, h4, by simp; omega⟩
theorem put_in {B : List Int} {x : Int} {n : Nat} (h : B.length ≤ 1048576) (h0 : -(2 ^ (8 * n - 1)) ≤ x) (h1 : x < 2 ^ (8 * n)) : putB false B x n = B ++ be x n ∧ putF false B x n = false := by
  unfold putB putF
  rw [if_neg (by simp [over_in h]), if_neg (by omega), if_neg (by simp [over_in h]), if_neg (by omega)]
  exact ⟨rfl, rfl⟩
theorem put_out {fl : Bool} {B : List Int} {x : Int} {n : Nat} (h : 1048576 < B.length) : putB fl B x n = B ∧ putF fl B x n = fl := by
  unfold putB putF
  rw [if_pos (over_out h), if_pos (over_out h)]
  exact ⟨rfl, rfl⟩
theorem Rs.s32 {s : St} {X : List Int} (h : Rs s X) {x : Int} (h0 : 0 ≤ x) (h1 : x < 4294967296) : Rs (s32 s x) (X ++ be x 4) :=
  Rs.step (f := fun s => Pag.s32 s x) (ys := be x 4) (fun hx => by show Pag.s32 (false, X) x = (false, X ++ be x 4); unfold Pag.s32; obtain ⟨e1, e2⟩ := put_in (x := x) (n := 4) hx (by omega) (by omega); rw [e1, e2]) (fun s hs => by show Pag.s32 s x = s; unfold Pag.s32; obtain ⟨e1, e2⟩ := put_out (fl := s.1) (x := x) (n := 4) hs; rw [e1, e2]) h
theorem Rs.s16 {s : St} {X : List Int} (h : Rs s X) {x : Int} (h0 : 0 ≤ x) (h1 : x < 65536) : Rs (s16 s x) (X ++ be x 2) :=
  Rs.step (f := fun s => Pag.s16 s x) (ys := be x 2) (fun hx => by show Pag.s16 (false, X) x = (false, X ++ be x 2); unfold Pag.s16; obtain ⟨e1, e2⟩ := put_in (x := x) (n := 2) hx (by omega) (by omega); rw [e1, e2]) (fun s hs => by show Pag.s16 s x = s; unfold Pag.s16; obtain ⟨e1, e2⟩ := put_out (fl := s.1) (x := x) (n := 2) hs; rw [e1, e2]) h
theorem Rs.sTag {s : St} {X : List Int} (h : Rs s X) {x : ByteArray} (hg : good x = true) : Rs (sTag s x) (X ++ bytesOf x) :=
  Rs.step (f := fun s => Pag.sTag s x) (ys := bytesOf x) (fun hx => by show Pag.sTag (false, X) x = (false, X ++ bytesOf x); unfold Pag.sTag tagF tagB; simp [over_in hx, hg]) (fun s hs => by show Pag.sTag s x = s; unfold Pag.sTag tagF tagB; simp [over_out (fl := s.1) hs]) h
theorem Rs.sBytes {s : St} {X : List Int} (h : Rs s X) (x : List Int) : Rs (sBytes s x) (X ++ x) :=
  Rs.step (f := fun s => Pag.sBytes s x) (ys := x) (fun hx => by show Pag.sBytes (false, X) x = (false, X ++ x); unfold Pag.sBytes putsB; simp [over_in hx]) (fun s hs => by show Pag.sBytes s x = s; unfold Pag.sBytes putsB; simp [over_out (fl := s.1) hs]) h
theorem Rs.sPad {s : St} {X : List Int} (h : Rs s X) : Rs (sPad s) (X ++ List.replicate (padN X.length 4) 0) :=
  Rs.step (f := fun s => Pag.sPad s) (ys := List.replicate (padN X.length 4) 0) (fun hx => by show Pag.sPad (false, X) = (false, X ++ List.replicate (padN X.length 4) 0); unfold Pag.sPad padF padB; simp [over_in hx]) (fun s hs => by show Pag.sPad s = s; unfold Pag.sPad padF padB; simp [over_out (fl := s.1) hs]) h

def dirL : List S72 → Int → List Int
  | [], _ => []
  | t :: r, a => bytesOf t.f0 ++ (be (sumB t.f1) 4 ++ (be a 4 ++ (be (t.f1.length : Int) 4 ++ dirL r (a + fill4 t.f1.length))))
def pads (n : Nat) : List Int := List.replicate (padN n 4) 0
def bodL : List S72 → List Int
  | [] => []
  | t :: r => t.f1 ++ (pads t.f1.length ++ bodL r)
def headL (n : Nat) : List Int := be 65536 4 ++ be (n : Int) 2 ++ be (16 * ((2 ^ n.log2 : Nat) : Int)) 2 ++ be (n.log2 : Int) 2 ++ be (16 * ((n : Int) - ((2 ^ n.log2 : Nat) : Int))) 2
def lay (m : List S72) : List Int := headL m.length ++ dirL m (12 + 16 * (m.length : Int)) ++ bodL m
def okT (t : S72) : Prop := good t.f0 = true ∧ t.f1.length ≤ 1048576
theorem fill4_eq (n : Nat) : fill4 n = (n : Int) + (padN n 4 : Int) := by unfold fill4 padN; omega
theorem good_size {s : ByteArray} (h : good s = true) : s.size = 4 := by
  unfold good at h
  simp at h
  exact h.2
theorem bytesOf_four {s : ByteArray} (h : good s = true) : (bytesOf s).length = 4 := by rw [bytesOf_length, good_size h]

theorem dirS_Rs : ∀ (m : List S72) (a : Int) (s : St) (X : List Int), Rs s X → (∀ t ∈ m, okT t) → 0 ≤ a → a + 2000000 * (m.length : Int) ≤ 4000000000 → Rs (dirS m a s) (X ++ dirL m a)
  | [], a, s, X, h, _, _, _ => by rw [dirL, List.append_nil]; exact h
  | t :: r, a, s, X, h, hok, h0, h1 => by
    have ht := hok t (by simp)
    have hf := fill4_eq t.f1.length
    have hp : padN t.f1.length 4 < 4 := by unfold padN; omega
    have hl := ht.2
    simp only [List.length_cons] at h1
    have hs := sumB_range t.f1
    have h2 := (((h.sTag ht.1).s32 hs.1 hs.2).s32 h0 (show a < 4294967296 by omega)).s32 (x := (t.f1.length : Int)) (by omega) (by omega)
    have h3 := dirS_Rs r (a + fill4 t.f1.length) _ _ h2 (fun t ht => hok t (by simp [ht])) (by omega) (by omega)
    rw [dirS, dirL]
    simpa [List.append_assoc] using h3
theorem padN_mod {m n : Nat} (h : m % 4 = 0) : padN (m + n) 4 = padN n 4 := by unfold padN; omega
theorem bodS_Rs : ∀ (m : List S72) (s : St) (X : List Int), Rs s X → X.length % 4 = 0 → Rs (bodS m s) (X ++ bodL m)
  | [], s, X, h, _ => by rw [bodL, List.append_nil]; exact h
  | t :: r, s, X, h, hx => by
    have h2 := (h.sBytes t.f1).sPad
    rw [List.length_append, padN_mod hx] at h2
    have h3 := bodS_Rs r _ _ h2 (by simp only [List.length_append, List.length_replicate]; unfold padN; omega)
    rw [bodS, bodL]
    simpa [List.append_assoc, pads] using h3
theorem log_facts {n : Nat} (h1 : 1 ≤ n) (h2 : n ≤ 32) : 1 ≤ 2 ^ n.log2 ∧ 2 ^ n.log2 ≤ n ∧ n.log2 ≤ 5 := by
  have h3 := Nat.log2_self_le (n := n) (by omega)
  have h4 : n.log2 < 6 := (Nat.log2_lt (by omega)).2 (by omega)
  exact ⟨Nat.one_le_two_pow, h3, by omega⟩
theorem headS_Rs {n : Nat} (h1 : 1 ≤ n) (h2 : n ≤ 32) : Rs (headS n) (headL n) := by
  obtain ⟨h3, h4, h5⟩ := log_facts h1 h2
  have h0 : Rs (false, []) [] := .inl rfl
  have := ((((h0.s32 (x := 65536) (by omega) (by omega)).s16 (x := (n : Int)) (by omega) (by omega)).s16 (x := 16 * ((2 ^ n.log2 : Nat) : Int)) (by omega) (by omega)).s16 (x := (n.log2 : Int)) (by omega) (by omega)).s16 (x := 16 * ((n : Int) - ((2 ^ n.log2 : Nat) : Int))) (by omega) (by omega)
  unfold headS headL
  simpa using this
theorem headL_len (n : Nat) : (headL n).length = 12 := by simp [headL, be_len]
theorem dirL_len : ∀ (m : List S72) (a : Int), (∀ t ∈ m, okT t) → (dirL m a).length = 16 * m.length
  | [], _, _ => rfl
  | t :: r, a, h => by
    have := dirL_len r (a + fill4 t.f1.length) (fun t ht => h t (by simp [ht]))
    simp only [dirL, List.length_append, be_len, bytesOf_four (h t (by simp)).1, this, List.length_cons]
    omega
theorem bodL_len : ∀ (m : List S72), (bodL m).length % 4 = 0
  | [] => rfl
  | t :: r => by
    have := bodL_len r
    simp only [bodL, List.length_append, pads, List.length_replicate]
    unfold padN
    omega
theorem packS_Rs {m : List S72} (h : ∀ t ∈ m, okT t) (h1 : 1 ≤ m.length) (h2 : m.length ≤ 32) : Rs (packS m) (lay m) := by
  have hd := dirS_Rs m (12 + 16 * (m.length : Int)) _ _ (headS_Rs h1 h2) h (by omega) (by omega)
  exact bodS_Rs m _ _ hd (by rw [List.length_append, headL_len, dirL_len m _ h]; omega)
theorem lay_four {m : List S72} (h : ∀ t ∈ m, okT t) : (lay m).length % 4 = 0 := by
  have := bodL_len m
  simp only [lay, List.length_append, headL_len, dirL_len m _ h]
  omega
theorem Rs.out {s : St} {X : List Int} (h : Rs s X) : (allB s.1 s.2 [], allE s.1 s.2 []) = if X.length ≤ 1048576 then (X, 0) else ([], 3) := by
  rcases h with rfl | ⟨h1, h2, h3⟩
  · by_cases hx : X.length ≤ 1048576
    · have : ¬ (1048576 < X.length) := by omega
      simp [allB, allE, hx, this]
    · have : 1048576 < X.length := by omega
      simp [allB, allE, hx, this]
  · rw [h1, if_neg (by omega)]
    simp [allB, allE, h2]
theorem fm_ok {l : List S72} (h : fm l = true) : ∀ t ∈ l, okT t := by
  intro t ht
  refine ⟨?_, (fm_len h).2.2 t ht⟩
  simp only [fm, Bool.and_eq_true, List.all_eq_true, List.mem_range, decide_eq_true_eq] at h
  obtain ⟨i, hi, rfl⟩ := List.mem_iff_getElem.1 ht
  have h1 := h.1.1 i hi
  simp only [fmAt, Bool.and_eq_true] at h1
  have e : rd_T72 l (i : Int) = l[i] := by simp [rd_T72, hi]
  rw [e] at h1
  exact h1.1.1
/-- sfnt.Pack, told plainly. -/
theorem pack_eq {l : List S72} (hf : fits l = true) : sfnt_Pack.f l = some (if fm l = true then (if (lay (sortT l)).length ≤ 1048576 then (lay (sortT l), 0) else ([], 3)) else ([], 1)) := by
  unfold sfnt_Pack.f
  rw [if_pos hf]
  by_cases hm : fm l = true
  · rw [if_pos hm, if_pos hm]
    have hR := packS_Rs (m := sortT l) (fun t ht => fm_ok hm t ((sortT_perm l).mem_iff.1 ht)) (by rw [sortT_len]; exact (fm_len hm).1) (by rw [sortT_len]; exact (fm_len hm).2.1)
    rw [hR.out]
  · rw [if_neg hm, if_neg hm]
end Go.Proofs.Ytmppdgjnibamlaa.Pag
