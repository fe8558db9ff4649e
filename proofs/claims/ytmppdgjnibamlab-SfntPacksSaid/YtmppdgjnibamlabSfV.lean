/- What sfnt.Pack makes of formed tables: the bytes themselves. Plain. -/
import Derived.Test.YtmppdgjnibamlabSfA
import Derived.Test.YtmppdgjnibamlabPSfx4
namespace Go.Proofs.Ytmppdgjnibamlab.Pag
open Go.RowKit Go.Proofs.Ytmppdgjnibamlab.PSf Go.Proofs.YtmppdgjnibamlabW.PrintWords
set_option linter.unusedVariables false
set_option linter.unusedSimpArgs false

theorem be_len (x : Int) (n : Nat) : (be x n).length = n := by simp [be]
theorem over_out {fl : Bool} {B : List Int} (h : 1048576 < B.length) : over fl B = true := by simp [over]; omega
theorem over_in {B : List Int} (h : B.length ≤ 1048576) : over false B = false := by simp [over]; omega
/-- The page is what it should be, or too long, as that would be. -/
def Rs (s : St) (X : List Int) : Prop := s = (false, X) ∨ (s.1 = false ∧ 1048576 < s.2.length ∧ 1048576 < X.length)
theorem Rs.step {f : St → St} {ys : List Int} {s : St} {X : List Int} (h1 : X.length ≤ 1048576 → f (false, X) = (false, X ++ ys)) (h2 : ∀ s, 1048576 < s.2.length → f s = s) (h : Rs s X) : Rs (f s) (X ++ ys) := by
  rcases h with rfl | ⟨h3, h4, h5⟩
  · by_cases hx : X.length ≤ 1048576
    · exact .inl (h1 hx)
    · rw [h2 _ (by show 1048576 < X.length; omega)]
      exact .inr ⟨rfl, by show 1048576 < X.length; omega, by simp; omega⟩
  · rw [h2 _ h4]
    exact .inr ⟨h3, h4, by simp; omega⟩
theorem put_in {B : List Int} {x : Int} {n : Nat} (h : B.length ≤ 1048576) (h0 : -(2 ^ (8 * n - 1)) ≤ x) (h1 : x < 2 ^ (8 * n)) : putB false B x n = B ++ be x n ∧ putF false B x n = false := by
  unfold putB putF
  rw [if_neg (by simp [over_in h]), if_neg (by omega), if_neg (by simp [over_in h]), if_neg (by omega)]
  exact ⟨rfl, rfl⟩
theorem put_out {fl : Bool} {B : List Int} {x : Int} {n : Nat} (h : 1048576 < B.length) : putB fl B x n = B ∧ putF fl B x n = fl := by
  unfold putB putF
  rw [if_pos (over_out h), if_pos (over_out h)]
  exact ⟨rfl, rfl⟩
theorem Rs.s32 {s : St} {X : List Int} (h : Rs s X) {x : Int} (h0 : 0 ≤ x) (h1 : x < 4294967296) : Rs (s32 s x) (X ++ be x 4) :=
  Rs.step (f := fun s => Pag.s32 s x) (ys := be x 4) (fun hx => by show Pag.s32 (false, X) x = (false, X ++ be x 4); unfold Pag.s32; obtain ⟨e1, e2⟩ := put_in (x := x) (n := 4) hx (by omega) (by omega); rw [e1, e2]) (fun s hs => by show Pag.s32 s x = s; unfold Pag.s32; obtain ⟨e1, e2⟩ := put_out (fl := s.1) (x := x) (n := 4) hs; rw [e1, e2]) h
theorem Rs.s16 {s : St} {X : List Int} (h : Rs s X) {x : Int} (h0 : 0 ≤ x) (h1 : x < 65536) : Rs (s16 s x) (X ++ be x 2) :=
  Rs.step (f := fun s => Pag.s16 s x) (ys := be x 2) (fun hx => by show Pag.s16 (false, X) x = (false, X ++ be x 2); unfold Pag.s16; obtain ⟨e1, e2⟩ := put_in (x := x) (n := 2) hx (by omega) (by omega); rw [e1, e2]) (fun s hs => by show Pag.s16 s x = s; unfold Pag.s16; obtain ⟨e1, e2⟩ := put_out (fl := s.1) (x := x) (n := 2) hs; rw [e1, e2]) h
theorem Rs.sTag {s : St} {X : List Int} (h : Rs s X) {x : ByteArray} (hg : good x = true) : Rs (sTag s x) (X ++ bytesOf x) :=
  Rs.step (f := fun s => Pag.sTag s x) (ys := bytesOf x) (fun hx => by show Pag.sTag (false, X) x = (false, X ++ bytesOf x); unfold Pag.sTag tagF tagB; simp [over_in hx, hg]) (fun s hs => by show Pag.sTag s x = s; unfold Pag.sTag tagF tagB; simp [over_out (fl := s.1) hs]) h
theorem Rs.sBytes {s : St} {X : List Int} (h : Rs s X) (x : List Int) : Rs (sBytes s x) (X ++ x) :=
  Rs.step (f := fun s => Pag.sBytes s x) (ys := x) (fun hx => by show Pag.sBytes (false, X) x = (false, X ++ x); unfold Pag.sBytes putsB; simp [over_in hx]) (fun s hs => by show Pag.sBytes s x = s; unfold Pag.sBytes putsB; simp [over_out (fl := s.1) hs]) h
theorem Rs.sPad {s : St} {X : List Int} (h : Rs s X) : Rs (sPad s) (X ++ List.replicate (padN X.length 4) 0) :=
  Rs.step (f := fun s => Pag.sPad s) (ys := List.replicate (padN X.length 4) 0) (fun hx => by show Pag.sPad (false, X) = (false, X ++ List.replicate (padN X.length 4) 0); unfold Pag.sPad padF padB; simp [over_in hx]) (fun s hs => by show Pag.sPad s = s; unfold Pag.sPad padF padB; simp [over_out (fl := s.1) hs]) h

def dirL : List S115 → Int → List Int
  | [], _ => []
  | t :: r, a => bytesOf t.f0 ++ (be (sumB t.f1) 4 ++ (be a 4 ++ (be (t.f1.length : Int) 4 ++ dirL r (a + fill4 t.f1.length))))
def pads (n : Nat) : List Int := List.replicate (padN n 4) 0
def bodL : List S115 → List Int
  | [] => []
  | t :: r => t.f1 ++ (pads t.f1.length ++ bodL r)
def headL (n : Nat) : List Int := be 65536 4 ++ be (n : Int) 2 ++ be (16 * ((2 ^ n.log2 : Nat) : Int)) 2 ++ be (n.log2 : Int) 2 ++ be (16 * ((n : Int) - ((2 ^ n.log2 : Nat) : Int))) 2
def lay (m : List S115) : List Int := headL m.length ++ dirL m (12 + 16 * (m.length : Int)) ++ bodL m
def okT (t : S115) : Prop := good t.f0 = true ∧ t.f1.length ≤ 1048576
theorem fill4_eq (n : Nat) : fill4 n = (n : Int) + (padN n 4 : Int) := by unfold fill4 padN; omega
theorem good_size {s : ByteArray} (h : good s = true) : s.size = 4 := by
  unfold good at h
  simp at h
  exact h.2
theorem bytesOf_four {s : ByteArray} (h : good s = true) : (bytesOf s).length = 4 := by rw [bytesOf_length, good_size h]

theorem dirS_Rs : ∀ (m : List S115) (a : Int) (s : St) (X : List Int), Rs s X → (∀ t ∈ m, okT t) → 0 ≤ a → a + 2000000 * (m.length : Int) ≤ 4000000000 → Rs (dirS m a s) (X ++ dirL m a)
  | [], a, s, X, h, _, _, _ => by rw [dirL, List.append_nil]; exact h
  | t :: r, a, s, X, h, hok, h0, h1 => by
    have ht := hok t (by simp)
    have hf := fill4_eq t.f1.length
    have hp : padN t.f1.length 4 < 4 := by unfold padN; omega
    have hl := ht.2
    simp only [List.length_cons] at h1
    have hs := sumB_range t.f1
    have h2 := (((h.sTag ht.1).s32 hs.1 hs.2).s32 h0 (show a < 4294967296 by omega)).s32 (x := (t.f1.length : Int)) (by omega) (by omega)
    have h3 := dirS_Rs r (a + fill4 t.f1.length) _ _ h2 (fun t ht => hok t (by simp [ht])) (by omega) (by omega)
    rw [dirS, dirL]
    simpa [List.append_assoc] using h3
theorem padN_mod {m n : Nat} (h : m % 4 = 0) : padN (m + n) 4 = padN n 4 := by unfold padN; omega
theorem bodS_Rs : ∀ (m : List S115) (s : St) (X : List Int), Rs s X → X.length % 4 = 0 → Rs (bodS m s) (X ++ bodL m)
  | [], s, X, h, _ => by rw [bodL, List.append_nil]; exact h
  | t :: r, s, X, h, hx => by
    have h2 := (h.sBytes t.f1).sPad
    rw [List.length_append, padN_mod hx] at h2
    have h3 := bodS_Rs r _ _ h2 (by simp only [List.length_append, List.length_replicate]; unfold padN; omega)
    rw [bodS, bodL]
    simpa [List.append_assoc, pads] using h3
theorem log_facts {n : Nat} (h1 : 1 ≤ n) (h2 : n ≤ 32) : 1 ≤ 2 ^ n.log2 ∧ 2 ^ n.log2 ≤ n ∧ n.log2 ≤ 5 := by
  have h3 := Nat.log2_self_le (n := n) (by omega)
  have h4 : n.log2 < 6 := (Nat.log2_lt (by omega)).2 (by omega)
  exact ⟨Nat.one_le_two_pow, h3, by omega⟩
theorem headS_Rs {n : Nat} (h1 : 1 ≤ n) (h2 : n ≤ 32) : Rs (headS n) (headL n) := by
  obtain ⟨h3, h4, h5⟩ := log_facts h1 h2
  have h0 : Rs (false, []) [] := .inl rfl
  have := ((((h0.s32 (x := 65536) (by omega) (by omega)).s16 (x := (n : Int)) (by omega) (by omega)).s16 (x := 16 * ((2 ^ n.log2 : Nat) : Int)) (by omega) (by omega)).s16 (x := (n.log2 : Int)) (by omega) (by omega)).s16 (x := 16 * ((n : Int) - ((2 ^ n.log2 : Nat) : Int))) (by omega) (by omega)
  unfold headS headL
  simpa using this
theorem headL_len (n : Nat) : (headL n).length = 12 := by simp [headL, be_len]
theorem dirL_len : ∀ (m : List S115) (a : Int), (∀ t ∈ m, okT t) → (dirL m a).length = 16 * m.length
  | [], _, _ => rfl
  | t :: r, a, h => by
    have := dirL_len r (a + fill4 t.f1.length) (fun t ht => h t (by simp [ht]))
    simp only [dirL, List.length_append, be_len, bytesOf_four (h t (by simp)).1, this, List.length_cons]
    omega
theorem bodL_len : ∀ (m : List S115), (bodL m).length % 4 = 0
  | [] => rfl
  | t :: r => by
    have := bodL_len r
    simp only [bodL, List.length_append, pads, List.length_replicate]
    unfold padN
    omega
theorem packS_Rs {m : List S115} (h : ∀ t ∈ m, okT t) (h1 : 1 ≤ m.length) (h2 : m.length ≤ 32) : Rs (packS m) (lay m) := by
  have hd := dirS_Rs m (12 + 16 * (m.length : Int)) _ _ (headS_Rs h1 h2) h (by omega) (by omega)
  exact bodS_Rs m _ _ hd (by rw [List.length_append, headL_len, dirL_len m _ h]; omega)
theorem lay_four {m : List S115} (h : ∀ t ∈ m, okT t) : (lay m).length % 4 = 0 := by
  have := bodL_len m
  simp only [lay, List.length_append, headL_len, dirL_len m _ h]
  omega
theorem Rs.out {s : St} {X : List Int} (h : Rs s X) : (allB s.1 s.2 [], allE s.1 s.2 []) = if X.length ≤ 1048576 then (X, 0) else ([], 3) := by
  rcases h with rfl | ⟨h1, h2, h3⟩
  · by_cases hx : X.length ≤ 1048576
    · have : ¬ (1048576 < X.length) := by omega
      simp [allB, allE, hx, this]
    · have : 1048576 < X.length := by omega
      simp [allB, allE, hx, this]
  · rw [h1, if_neg (by omega)]
    simp [allB, allE, h2]
theorem fm_ok {l : List S115} (h : fm l = true) : ∀ t ∈ l, okT t := by
  intro t ht
  refine ⟨?_, (fm_len h).2.2 t ht⟩
  simp only [fm, Bool.and_eq_true, List.all_eq_true, List.mem_range, decide_eq_true_eq] at h
  obtain ⟨i, hi, rfl⟩ := List.mem_iff_getElem.1 ht
  have h1 := h.1.1 i hi
  simp only [fmAt, Bool.and_eq_true] at h1
  have e : rd_T115 l (i : Int) = l[i] := by simp [rd_T115, hi]
  rw [e] at h1
  exact h1.1.1
/-- sfnt.Pack, told plainly. -/
theorem pack_eq {l : List S115} (hf : fits l = true) : sfnt_Pack.f l = some (if fm l = true then (if (lay (sortT l)).length ≤ 1048576 then (lay (sortT l), 0) else ([], 3)) else ([], 1)) := by
  unfold sfnt_Pack.f
  rw [if_pos hf]
  by_cases hm : fm l = true
  · rw [if_pos hm, if_pos hm]
    have hR := packS_Rs (m := sortT l) (fun t ht => fm_ok hm t ((sortT_perm l).mem_iff.1 ht)) (by rw [sortT_len]; exact (fm_len hm).1) (by rw [sortT_len]; exact (fm_len hm).2.1)
    rw [hR.out]
  · rw [if_neg hm, if_neg hm]
end Go.Proofs.Ytmppdgjnibamlab.Pag

/-! What sfnt.Unpack answers, told plainly. -/
namespace Go.Proofs.Ytmppdgjnibamlab.Pag
open Go.RowKit Go.Proofs.Ytmppdgjnibamlab.PSf Go.Proofs.YtmppdgjnibamlabW.PrintWords
set_option linter.unusedVariables false
set_option linter.unusedSimpArgs false

def packP (l : List S115) : List Int × Int := if fm l = true then (if (lay (sortT l)).length ≤ 1048576 then (lay (sortT l), 0) else ([], 3)) else ([], 1)
def fieldP (b : List Int) (a n : Int) : Int × Bool := if a < 0 ∨ a > (b.length : Int) - n then (0, false) else (numBE ((b.drop a.toNat).take n.toNat), true)
def cutP (b : List Int) (a s : Int) : List Int × Bool := if s < 0 ∨ a < 0 ∨ a > (b.length : Int) - s then ([], false) else ((b.drop a.toNat).take s.toNat, true)
def tagP (b : List Int) (a : Int) : ByteArray × Bool := if a < 0 ∨ a > (b.length : Int) - 4 then (⟨#[]⟩, false) else if good (strOfNums ((b.drop a.toNat).take 4)) = true then (strOfNums ((b.drop a.toNat).take 4), true) else (⟨#[]⟩, false)
theorem u16_eq {b : List Int} (h : b.all byteB = true) (a : Int) : octets_U16.f b a = some (fieldP b a 2) := by
  unfold octets_U16.f octets_field.f fieldP
  rw [if_pos ⟨h, by omega, by omega⟩]
  split <;> rfl
theorem u32_eq {b : List Int} (h : b.all byteB = true) (a : Int) : octets_U32.f b a = some (fieldP b a 4) := by
  unfold octets_U32.f octets_field.f fieldP
  rw [if_pos ⟨h, by omega, by omega⟩]
  split <;> rfl
theorem cut_eq {b : List Int} (h : b.length ≤ 140737488355328) (a : Int) {s : Int} (hs : s ≤ 9223372036854775807) : octets_Cut.f b a s = some (cutP b a s) := by
  unfold octets_Cut.f cutP
  rw [if_pos ⟨h, hs⟩]
  split <;> rfl
theorem tag_eq {b : List Int} (h : b.length ≤ 140737488355328) (a : Int) : octets_Tag.f b a = some (tagP b a) := by
  unfold octets_Tag.f tagP
  rw [if_pos h]
  split
  · rfl
  · split <;> rfl
theorem fieldP_range {b : List Int} (h : b.all byteB = true) (a : Int) {n : Int} (hn : n = 2 ∨ n = 4) : 0 ≤ (fieldP b a n).1 ∧ (fieldP b a n).1 < 4294967296 := by
  unfold fieldP
  split
  · simp
  · have h1 := numBE_range ((b.drop a.toNat).take n.toNat) (by rw [List.all_eq_true] at h ⊢; exact fun x hx => h x (List.mem_of_mem_drop (List.mem_of_mem_take hx)))
    have h2 : (256 : Int) ^ ((b.drop a.toNat).take n.toNat).length ≤ 256 ^ 4 := by
      have : ((b.drop a.toNat).take n.toNat).length ≤ 4 := by rw [List.length_take]; rcases hn with rfl | rfl <;> simp <;> omega
      generalize ((b.drop a.toNat).take n.toNat).length = k at *
      rcases (show k = 0 ∨ k = 1 ∨ k = 2 ∨ k = 3 ∨ k = 4 by omega) with rfl | rfl | rfl | rfl | rfl <;> decide
    have h3 : (256 : Int) ^ 4 = 4294967296 := by decide
    simp only
    omega
theorem tagP_size (b : List Int) (a : Int) : (tagP b a).1.size ≤ 4 := by
  unfold tagP
  split
  · show (0 : Nat) ≤ 4; omega
  · split
    · rw [strOfNums_size, List.length_take]; omega
    · show (0 : Nat) ≤ 4; omega
theorem cutP_bytes {b : List Int} (h : b.all byteB = true) (a s : Int) : (cutP b a s).1.all byteB = true := by
  unfold cutP
  split
  · rfl
  · rw [List.all_eq_true] at h ⊢
    exact fun x hx => h x (List.mem_of_mem_drop (List.mem_of_mem_take hx))
/-- The table that entry i tells. -/
def tabP (b : List Int) (i : Nat) : S115 := ⟨(tagP b (12 + 16 * (i : Int))).1, (cutP b (fieldP b (20 + 16 * (i : Int)) 4).1 (fieldP b (24 + 16 * (i : Int)) 4).1).1⟩
def okP (b : List Int) (i : Nat) (acc : List S115) : Bool :=
  (tagP b (12 + 16 * (i : Int))).2 && (fieldP b (24 + 16 * (i : Int)) 4).2 && (cutP b (fieldP b (20 + 16 * (i : Int)) 4).1 (fieldP b (24 + 16 * (i : Int)) 4).1).2 && (decide (i = 0) || bef (rd_T115 acc ((i : Int) - 1)).f0 (tagP b (12 + 16 * (i : Int))).1)
def unL (b : List Int) : Nat → Nat → List S115 → Option (List S115)
  | 0, _, acc => some acc
  | d + 1, i, acc => if okP b i acc = true then unL b d (i + 1) (acc ++ [tabP b i]) else none
def endP (b : List Int) (l : List S115) : List S115 × Int := if (packP l).2 = 0 then (if b = (packP l).1 then (l, 0) else ([], 2)) else ([], 2)
def unpackP (b : List Int) : List S115 × Int :=
  if (fieldP b 4 2).2 = true ∧ (fieldP b 4 2).1 ≤ 32 then (match unL b (fieldP b 4 2).1.toNat 0 [] with | some l => endP b l | none => ([], 2)) else ([], 2)
theorem nums_inj {x y : List Int} (hx : x.all byteB = true) (hy : y.all byteB = true) (h : (strOfNums x).toList = (strOfNums y).toList) : x = y := by
  rw [Lib.strOfNums_toList, Lib.strOfNums_toList] at h
  unfold Lib.bytesOf at h
  induction x generalizing y with
  | nil => cases y with
    | nil => rfl
    | cons b y => simp at h
  | cons a x ih => cases y with
    | nil => simp at h
    | cons b y =>
      simp only [List.map_cons, List.cons.injEq] at h
      simp only [List.all_cons, Bool.and_eq_true, byteB, decide_eq_true_eq] at hx hy
      have e := congrArg UInt8.toNat h.1
      simp only [UInt8.toNat_ofNat'] at e
      have : a = b := by omega
      rw [this, ih hx.2 hy.2 h.2]
theorem all_app {a b : List Int} (h1 : a.all byteB = true) (h2 : b.all byteB = true) : (a ++ b).all byteB = true := by simp [List.all_append, h1, h2]
theorem be_all (x : Int) (n : Nat) : (be x n).all byteB = true := by
  rw [List.all_eq_true]
  intro c hc
  simp only [be, List.mem_map] at hc
  obtain ⟨i, _, rfl⟩ := hc
  simp [byteB]; omega
theorem bytesOf_all (s : ByteArray) : (bytesOf s).all byteB = true := by
  rw [List.all_eq_true]
  intro c hc
  simp only [bytesOf, List.mem_map] at hc
  obtain ⟨u, _, rfl⟩ := hc
  have := u.toNat_lt
  simp [byteB]; omega
def bytesT (l : List S115) : Prop := ∀ t ∈ l, t.f1.all byteB = true
theorem dirL_all : ∀ (m : List S115) (a : Int), (dirL m a).all byteB = true
  | [], _ => rfl
  | t :: r, a => all_app (bytesOf_all _) (all_app (be_all _ _) (all_app (be_all _ _) (all_app (be_all _ _) (dirL_all r _))))
theorem pads_all (n : Nat) : (pads n).all byteB = true := by
  rw [List.all_eq_true]
  intro c hc
  rw [(List.mem_replicate.1 hc).2]; rfl
theorem bodL_all : ∀ (m : List S115), bytesT m → (bodL m).all byteB = true
  | [], _ => rfl
  | t :: r, h => all_app (h t (by simp)) (all_app (pads_all _) (bodL_all r (fun t ht => h t (by simp [ht]))))
theorem lay_all {m : List S115} (h : bytesT m) : (lay m).all byteB = true :=
  all_app (all_app (all_app (all_app (all_app (all_app (be_all _ _) (be_all _ _)) (be_all _ _)) (be_all _ _)) (be_all _ _)) (dirL_all _ _)) (bodL_all m h)
theorem packP_all {l : List S115} (h : bytesT l) : (packP l).1.all byteB = true := by
  unfold packP
  split
  · split
    · exact lay_all (fun t ht => h t ((sortT_perm l).mem_iff.1 ht))
    · rfl
  · rfl
theorem fits_of {l : List S115} (h1 : l.length ≤ 1000) (h2 : ∀ t ∈ l, t.f0.size ≤ 4) : fits l = true := by
  unfold fits
  rw [Bool.and_eq_true, decide_eq_true_eq, List.all_eq_true]
  exact ⟨by omega, fun t ht => decide_eq_true (by have := h2 t ht; omega)⟩
theorem un_ev {b : List Int} (hb : b.all byteB = true) (hl : b.length ≤ 1048576) (n : Nat) (hn : n ≤ 32) : ∀ d i : Nat, i + d = n → ∀ acc : List S115, acc.length = i → (∀ t ∈ acc, t.f0.size ≤ 4) → bytesT acc →
    Ev (fun k => sfnt_Unpack.l0 k b acc (n : Int) (i : Int)) (match unL b d i acc with | some l => endP b l | none => ([], 2)) := by
  intro d
  induction d with
  | zero =>
    intro i hi acc ha hs hy
    have hp : sfnt_Pack.f acc = some (packP acc) := pack_eq (fits_of (by omega) hs)
    refine Ev.step (fun k => by rw [sfnt_Unpack.l0, if_neg (by omega), hp, Option.bind_some]) ?_
    unfold unL endP
    by_cases h0 : (packP acc).2 = 0
    · simp only [if_pos h0]
      by_cases he : b = (packP acc).1
      · simp only [← he, if_true]
        exact Ev.congr (fun k => by rw [bytes_Equal.f, Option.bind_some, if_pos (by simp)]) (Ev.now _)
      · simp only [if_neg he]
        have hne : ¬ (((strOfNums b).toList == (strOfNums (packP acc).1).toList) = true) := fun h => he (nums_inj hb (packP_all hy) (by simpa using h))
        exact Ev.congr (fun k => by rw [bytes_Equal.f, Option.bind_some, if_neg hne]) (Ev.now _)
    · simp only [if_neg h0]
      exact Ev.now _
  | succ d ih =>
    intro i hi acc ha hs hy
    have w1 : wrap64 (12 + wrap64 (16 * (i : Int))) = 12 + 16 * (i : Int) := by unfold wrap64; omega
    have w2 : wrap64 (20 + wrap64 (16 * (i : Int))) = 20 + 16 * (i : Int) := by unfold wrap64; omega
    have w3 : wrap64 (24 + wrap64 (16 * (i : Int))) = 24 + 16 * (i : Int) := by unfold wrap64; omega
    have w4 : wrap64 ((i : Int) + 1) = ((i + 1 : Nat) : Int) := by unfold wrap64; omega
    have w5 : 0 < i → wrap64 ((i : Int) - 1) = (i : Int) - 1 := fun h => by unfold wrap64; omega
    have r2 := fieldP_range hb (24 + 16 * (i : Int)) (n := 4) (.inr rfl)
    have hst : ∀ k, sfnt_Unpack.l0 (k + 1) b acc (n : Int) (i : Int) = if okP b i acc = true then sfnt_Unpack.l0 k b (acc ++ [tabP b i]) (n : Int) ((i + 1 : Nat) : Int) else some ([], 2) := by
      intro k
      rw [sfnt_Unpack.l0, if_pos (by omega), w1, w2, w3, tag_eq (by omega), Option.bind_some, u32_eq hb, Option.bind_some, u32_eq hb, Option.bind_some, cut_eq (by omega) _ (by omega), Option.bind_some, w4]
      unfold okP tabP
      generalize tagP b (12 + 16 * (i : Int)) = t
      generalize fieldP b (24 + 16 * (i : Int)) 4 = s
      generalize cutP b (fieldP b (20 + 16 * (i : Int)) 4).1 s.1 = c
      cases t.2
      · simp
      · cases s.2
        · simp
        · cases c.2
          · simp
          · rw [if_pos rfl, if_pos rfl, if_pos rfl]
            by_cases h0 : i = 0
            · subst h0
              rw [if_neg (by omega), if_pos (by omega)]
              simp
            · rw [if_pos (by omega), w5 (by omega), if_pos (by omega), if_pos (by omega)]
              by_cases h1 : Op.bytesLess (rd_T115 acc ((i : Int) - 1)).f0.toList t.1.toList = true
              · rw [if_pos h1, if_pos (by omega)]
                simp [bef, h1]
              · rw [if_neg h1]
                simp [bef, h1, h0]
    refine Ev.step hst ?_
    unfold unL
    by_cases ho : okP b i acc = true
    · simp only [if_pos ho]
      refine ih (i + 1) (by omega) _ (by simp [ha]) ?_ ?_
      · intro t ht
        rcases List.mem_append.1 ht with ht | ht
        · exact hs t ht
        · rw [List.mem_singleton.1 ht]; exact tagP_size _ _
      · intro t ht
        rcases List.mem_append.1 ht with ht | ht
        · exact hy t ht
        · rw [List.mem_singleton.1 ht]; exact cutP_bytes hb _ _
    · simp only [if_neg ho]
      exact Ev.now _
theorem unpack_ev {b : List Int} (hb : b.all byteB = true) (hl : b.length ≤ 1048576) : Ev (fun k => sfnt_Unpack.f k b) (unpackP b) := by
  unfold sfnt_Unpack.f unpackP
  simp only [if_neg (show ¬ ((b.length : Int) > 1048576) by omega)]
  refine Ev.congr (fun k => by rw [u16_eq hb, Option.bind_some]) ?_
  have hr := fieldP_range hb 4 (n := 2) (.inl rfl)
  generalize fieldP b 4 2 = q at hr
  have no : Ev (fun k => sfnt_Unpack.j0 k b q.1 true) ([], 2) := Ev.step (fun k => by rw [sfnt_Unpack.j0, if_pos rfl]) (Ev.now _)
  cases h2 : q.2 with
  | false => simp only [Bool.false_eq_true, if_false, false_and]; exact no
  | true =>
    by_cases h3 : q.1 ≤ 32
    · simp only [if_true, true_and, h3]
      obtain ⟨m, hm⟩ : ∃ m : Nat, q.1 = (m : Int) := ⟨q.1.toNat, by omega⟩
      rw [hm] at h3 ⊢
      simp only [Int.toNat_natCast]
      rw [decide_eq_false (by omega)]
      exact Ev.step (fun k => by rw [sfnt_Unpack.j0, if_neg (by simp)]; rfl) (un_ev hb hl m (by omega) m 0 (by omega) [] rfl (by simp) (fun t ht => by simp at ht))
    · simp only [if_true, true_and, h3, if_false]
      rw [decide_eq_true (by omega)]
      exact no
theorem unL_facts {b : List Int} (hb : b.all byteB = true) : ∀ d i acc l, unL b d i acc = some l → (∀ t ∈ acc, t.f0.size ≤ 4) → bytesT acc → l.length = acc.length + d ∧ (∀ t ∈ l, t.f0.size ≤ 4) ∧ bytesT l := by
  intro d
  induction d with
  | zero => intro i acc l h h1 h2; obtain rfl := Option.some.inj h; exact ⟨rfl, h1, h2⟩
  | succ d ih =>
    intro i acc l h h1 h2
    unfold unL at h
    split at h
    · obtain ⟨e1, e2, e3⟩ := ih (i + 1) _ l h (fun t ht => by
        rcases List.mem_append.1 ht with ht | ht
        · exact h1 t ht
        · rw [List.mem_singleton.1 ht]; exact tagP_size _ _) (fun t ht => by
        rcases List.mem_append.1 ht with ht | ht
        · exact h2 t ht
        · rw [List.mem_singleton.1 ht]; exact cutP_bytes hb _ _)
      exact ⟨by rw [e1, List.length_append]; simp; omega, e2, e3⟩
    · cases h
/-- What is unpacked is packed to its bytes. -/
theorem unpackP_or {b : List Int} (hb : b.all byteB = true) : unpackP b = ([], 2) ∨ ∃ l, unpackP b = (l, 0) ∧ packP l = (b, 0) ∧ l.length ≤ 32 ∧ (∀ t ∈ l, t.f0.size ≤ 4) ∧ bytesT l := by
  unfold unpackP
  split
  · rename_i hq
    cases hu : unL b (fieldP b 4 2).1.toNat 0 [] with
    | none => exact .inl rfl
    | some l =>
      obtain ⟨e1, e2, e3⟩ := unL_facts hb _ _ _ l hu (by simp) (fun t ht => by simp at ht)
      simp only
      unfold endP
      split
      · split
        · rename_i h1 h2
          exact .inr ⟨l, rfl, by rw [h2, ← h1], by rw [e1]; simp; omega, e2, e3⟩
        · exact .inl rfl
      · exact .inl rfl
  · exact .inl rfl
end Go.Proofs.Ytmppdgjnibamlab.Pag

/-! What was packed is unpacked: plain. -/
namespace Go.Proofs.Ytmppdgjnibamlab.Pag
open Go.RowKit Go.Proofs.Ytmppdgjnibamlab.PSf Go.Proofs.YtmppdgjnibamlabW.PrintWords
set_option linter.unusedVariables false
set_option linter.unusedSimpArgs false

theorem be_two (x : Int) : be x 2 = [x / 256 % 256, x % 256] := by simp [be, List.range_succ]
theorem be_four (x : Int) : be x 4 = [x / 16777216 % 256, x / 65536 % 256, x / 256 % 256, x % 256] := by simp [be, List.range_succ]
theorem num_two {x : Int} (h0 : 0 ≤ x) (h1 : x < 65536) : numBE (be x 2) = x := by rw [be_two]; simp only [numBE, List.foldl_cons, List.foldl_nil]; omega
theorem num_four {x : Int} (h0 : 0 ≤ x) (h1 : x < 4294967296) : numBE (be x 4) = x := by rw [be_four]; simp only [numBE, List.foldl_cons, List.foldl_nil]; omega
theorem be_inj {x y : Int} (h0 : 0 ≤ x) (h1 : x < 4294967296) (h2 : 0 ≤ y) (h3 : y < 4294967296) (h : be x 4 = be y 4) : x = y := by rw [← num_four h0 h1, h, num_four h2 h3]
theorem str_bytes (s : ByteArray) : strOfNums (bytesOf s) = s := by
  apply toList_inj
  rw [Lib.strOfNums_toList, ByteArray.toList_eq]
  unfold Lib.bytesOf bytesOf
  rw [List.map_map]
  conv => rhs; rw [← List.map_id s.data.toList]
  apply List.map_congr_left
  intro u _
  simp
/-- A field that stands there is read. -/
theorem field_at {b P R : List Int} {x : Int} {a : Int} (hb : b = P ++ (be x 4 ++ R)) (ha : a = (P.length : Int)) (h0 : 0 ≤ x) (h1 : x < 4294967296) : fieldP b a 4 = (x, true) := by
  subst hb ha
  unfold fieldP
  rw [if_neg (by simp [be_len]; omega), Int.toNat_natCast, List.drop_left, List.take_left' (by rw [be_len]; rfl), num_four h0 h1]
theorem field_at2 {b P R : List Int} {x : Int} {a : Int} (hb : b = P ++ (be x 2 ++ R)) (ha : a = (P.length : Int)) (h0 : 0 ≤ x) (h1 : x < 65536) : fieldP b a 2 = (x, true) := by
  subst hb ha
  unfold fieldP
  rw [if_neg (by simp [be_len]; omega), Int.toNat_natCast, List.drop_left, List.take_left' (by rw [be_len]; rfl), num_two h0 h1]
theorem tag_at {b P R : List Int} {s : ByteArray} {a : Int} (hb : b = P ++ (bytesOf s ++ R)) (ha : a = (P.length : Int)) (hg : good s = true) : tagP b a = (s, true) := by
  subst hb ha
  unfold tagP
  rw [if_neg (by simp [bytesOf_four hg]; omega), Int.toNat_natCast, List.drop_left, List.take_left' (bytesOf_four hg), str_bytes, if_pos hg]

def tabs : List S115 → List Int → List S115
  | [], _ => []
  | t :: r, Y => ⟨t.f0, Y.take t.f1.length⟩ :: tabs r (Y.drop (t.f1.length + padN t.f1.length 4))
def rising (m : List S115) : Prop := m.Pairwise (fun a b => bef a.f0 b.f0 = true)
theorem bodL_cons_len (t : S115) (r : List S115) : (bodL (t :: r)).length = t.f1.length + padN t.f1.length 4 + (bodL r).length := by
  simp only [bodL, List.length_append, pads, List.length_replicate]; omega
theorem unL_lay : ∀ (r : List S115) (i : Nat) (a : Int) (b P Z W : List Int) (acc : List S115), P.length = 12 + 16 * i → b = P ++ (dirL r a ++ Z) → 0 ≤ a → b.drop a.toNat = W → W.length = (bodL r).length → a.toNat ≤ b.length →
    (∀ t ∈ r, okT t) → a + 2000000 * (r.length : Int) ≤ 4000000000 → rising r → acc.length = i → (∀ t ∈ r, 0 < i → bef (rd_T115 acc ((i : Int) - 1)).f0 t.f0 = true) →
    unL b r.length i acc = some (acc ++ tabs r W)
  | [], i, a, b, P, Z, W, acc, _, _, _, _, _, _, _, _, _, _, _ => by simp [unL, tabs]
  | t :: r, i, a, b, P, Z, W, acc, hP, hb, h0, hW, hWl, ha', hok, ha, hri, hac, hlast => by
    have ht := hok t (by simp)
    have hs := sumB_range t.f1
    have hl := ht.2
    have hp : padN t.f1.length 4 < 4 := by unfold padN; omega
    have hf := fill4_eq t.f1.length
    simp only [List.length_cons] at ha
    rw [bodL_cons_len] at hWl
    rw [dirL] at hb
    have e1 : tagP b (12 + 16 * (i : Int)) = (t.f0, true) := tag_at (P := P) (R := be (sumB t.f1) 4 ++ (be a 4 ++ (be (t.f1.length : Int) 4 ++ dirL r (a + fill4 t.f1.length))) ++ Z) (by rw [hb]; simp [List.append_assoc]) (by rw [hP]; omega) ht.1
    have e2 : fieldP b (20 + 16 * (i : Int)) 4 = (a, true) := field_at (P := P ++ (bytesOf t.f0 ++ be (sumB t.f1) 4)) (R := be (t.f1.length : Int) 4 ++ dirL r (a + fill4 t.f1.length) ++ Z) (by rw [hb]; simp [List.append_assoc]) (by simp [hP, be_len, bytesOf_four ht.1]; omega) h0 (by omega)
    have e3 : fieldP b (24 + 16 * (i : Int)) 4 = ((t.f1.length : Int), true) := field_at (P := P ++ (bytesOf t.f0 ++ (be (sumB t.f1) 4 ++ be a 4))) (R := dirL r (a + fill4 t.f1.length) ++ Z) (by rw [hb]; simp [List.append_assoc]) (by simp [hP, be_len, bytesOf_four ht.1]; omega) (by omega) (by omega)
    have e4 : cutP b a (t.f1.length : Int) = (W.take t.f1.length, true) := by
      have hbl : b.length - a.toNat = W.length := by rw [← hW, List.length_drop]
      have hPb : a.toNat ≤ b.length → a ≤ (b.length : Int) - (t.f1.length : Int) := fun h => by omega
      unfold cutP
      rw [if_neg (by have := hPb ha'; omega), hW, Int.toNat_natCast]
    have hok1 : okP b i acc = true := by
      unfold okP
      rw [e1, e2, e3, e4]
      by_cases hi : i = 0
      · simp [hi]
      · simp [hlast t (by simp) (by omega)]
    have htab : tabP b i = ⟨t.f0, W.take t.f1.length⟩ := by unfold tabP; rw [e1, e2, e3, e4]
    rw [List.length_cons, unL, if_pos hok1, htab]
    obtain ⟨hr1, hr2⟩ := List.pairwise_cons.1 hri
    rw [unL_lay r (i + 1) (a + fill4 t.f1.length) b (P ++ (bytesOf t.f0 ++ (be (sumB t.f1) 4 ++ (be a 4 ++ be (t.f1.length : Int) 4)))) Z (W.drop (t.f1.length + padN t.f1.length 4)) _ (by simp [hP, be_len, bytesOf_four ht.1]; omega) (by rw [hb]; simp [List.append_assoc]) (by omega) (by
        rw [← hW, List.drop_drop]; congr 1; omega) (by rw [List.length_drop]; omega) (by have hbl : b.length - a.toNat = W.length := (by rw [← hW, List.length_drop]); omega) (fun t ht => hok t (by simp [ht])) (by omega) hr2 (by simp [hac]) (fun u hu _ => by
        have : rd_T115 (acc ++ [⟨t.f0, W.take t.f1.length⟩]) (((i + 1 : Nat) : Int) - 1) = ⟨t.f0, W.take t.f1.length⟩ := by
          rw [show (((i + 1 : Nat) : Int) - 1) = (i : Int) by omega]
          unfold rd_T115
          rw [Int.toNat_natCast, ← hac]; simp
        rw [this]; exact hr1 u hu)]
    simp [tabs]
theorem dirL_at {m : List S115} (h : ∀ t ∈ m, okT t) : (headL m.length ++ dirL m (12 + 16 * (m.length : Int))).length = 12 + 16 * m.length := by rw [List.length_append, headL_len, dirL_len m _ h]
/-- The tables of a file whose directory is right, whatever stands behind it. -/
theorem unpackP_lay {m : List S115} {Y : List Int} (hok : ∀ t ∈ m, okT t) (h1 : m.length ≤ 32) (hY : Y.length = (bodL m).length) (hri : rising m) :
    unpackP (headL m.length ++ dirL m (12 + 16 * (m.length : Int)) ++ Y) = endP (headL m.length ++ dirL m (12 + 16 * (m.length : Int)) ++ Y) (tabs m Y) := by
  have e1 : fieldP (headL m.length ++ dirL m (12 + 16 * (m.length : Int)) ++ Y) 4 2 = ((m.length : Int), true) :=
    field_at2 (P := be 65536 4) (R := be (16 * ((2 ^ m.length.log2 : Nat) : Int)) 2 ++ be (m.length.log2 : Int) 2 ++ be (16 * ((m.length : Int) - ((2 ^ m.length.log2 : Nat) : Int))) 2 ++ dirL m (12 + 16 * (m.length : Int)) ++ Y) (by unfold headL; simp [List.append_assoc]) (by rw [be_len]; rfl) (by omega) (by omega)
  have hl := dirL_at hok
  have e2 := unL_lay m 0 (12 + 16 * (m.length : Int)) (headL m.length ++ dirL m (12 + 16 * (m.length : Int)) ++ Y) (headL m.length) Y Y [] (by rw [headL_len]) (by simp [List.append_assoc]) (by omega) (by
    rw [show (12 + 16 * (m.length : Int)).toNat = (headL m.length ++ dirL m (12 + 16 * (m.length : Int))).length by rw [hl]; omega, List.drop_left]) hY (by rw [List.length_append, hl]; omega) hok (by omega) hri rfl (fun _ _ h => absurd h (by omega))
  unfold unpackP
  rw [e1]
  simp only [Int.toNat_natCast]
  rw [if_pos ⟨by trivial, by omega⟩, e2]
  rfl
theorem tabs_self : ∀ (m : List S115), tabs m (bodL m) = m
  | [] => rfl
  | t :: r => by
    rw [tabs, bodL, List.take_left]
    rw [← List.append_assoc, List.drop_left' (by rw [List.length_append]; simp [pads]), tabs_self r]
theorem rising_apart {m : List S115} (h : rising m) : apart m := h.imp (fun {a b} hab e => by rw [e, bef_irrefl] at hab; cases hab)
theorem rising_sort {m : List S115} (h : rising m) : sortT m = m := (sorted_eq (List.Perm.refl m) (h.imp (fun {a b} hab => by
  cases hq : bef b.f0 a.f0 with
  | false => rfl
  | true => exact absurd (bef_trans hab hq) (by rw [bef_irrefl]; simp))) (rising_apart h)).symm
theorem sort_rising {l : List S115} (h : apart l) : rising (sortT l) := by
  have h1 : apart (sortT l) := ((sortT_perm l).pairwise_iff (R := fun a b : S115 => a.f0 ≠ b.f0) (fun {a b} (h : a.f0 ≠ b.f0) => h.symm)).2 h
  have h2 := sortT_sorted l
  unfold rising
  refine List.Pairwise.imp₂ (fun {a b} hab hne => ?_) h2 h1
  cases hq : bef a.f0 b.f0 with
  | true => rfl
  | false => exact absurd (bef_tri hq hab) hne
theorem fm_intro {l : List S115} (h1 : 1 ≤ l.length) (h2 : l.length ≤ 32) (hok : ∀ t ∈ l, okT t) (ha : apart l) : fm l = true := by
  unfold fm
  rw [Bool.and_eq_true, Bool.and_eq_true, decide_eq_true_eq, decide_eq_true_eq, List.all_eq_true]
  refine ⟨⟨fun i hi => ?_, h1⟩, h2⟩
  have hi' := List.mem_range.1 hi
  have e : rd_T115 l (i : Int) = l[i] := by simp [rd_T115, hi']
  have ht := hok l[i] (List.getElem_mem hi')
  unfold fmAt
  rw [e]
  have hn : inB (tagsTo l i) l[i].f0 = false := by
    cases hb : inB (tagsTo l i) l[i].f0 with
    | false => rfl
    | true =>
      rw [inB_iff] at hb
      unfold tagsTo at hb
      obtain ⟨x, hx, e2⟩ := List.mem_map.1 hb
      obtain ⟨j, hj, rfl⟩ := List.mem_take_iff_getElem.1 hx
      exact absurd e2 ((List.pairwise_iff_getElem.1 ha) j i (by omega) hi' (by omega))
  rw [hn, ht.1]
  simpa using ht.2
theorem fm_sort {l : List S115} (h : fm l = true) : fm (sortT l) = true := by
  have hp := sortT_perm l
  refine fm_intro (by rw [sortT_len]; exact (fm_len h).1) (by rw [sortT_len]; exact (fm_len h).2.1) (fun t ht => fm_ok h t (hp.mem_iff.1 ht)) (rising_apart (sort_rising (fm_apart h)))
/-- THE ROUND TRIP. -/
theorem unpackP_of_pack {l : List S115} {b : List Int} (h : packP l = (b, 0)) : unpackP b = (sortT l, 0) := by
  unfold packP at h
  split at h
  · rename_i hm
    split at h
    · rename_i hl
      obtain rfl : lay (sortT l) = b := congrArg Prod.fst h
      have hri := sort_rising (fm_apart hm)
      have hok : ∀ t ∈ sortT l, okT t := fun t ht => fm_ok hm t ((sortT_perm l).mem_iff.1 ht)
      have e := unpackP_lay (Y := bodL (sortT l)) hok (by rw [sortT_len]; exact (fm_len hm).2.1) rfl hri
      rw [tabs_self] at e
      show unpackP (headL _ ++ dirL _ _ ++ bodL _) = _
      rw [e]
      have hp : packP (sortT l) = (lay (sortT l), 0) := by
        unfold packP
        rw [if_pos (fm_sort hm), rising_sort hri, if_pos hl]
      show endP (lay (sortT l)) (sortT l) = _
      unfold endP
      rw [hp]
      simp
    · exact absurd (show (3 : Int) = 0 from congrArg Prod.snd h) (by decide)
  · exact absurd (show (1 : Int) = 0 from congrArg Prod.snd h) (by decide)
end Go.Proofs.Ytmppdgjnibamlab.Pag

/-! A file of which a byte was turned: plain. -/
namespace Go.Proofs.Ytmppdgjnibamlab.Pag
open Go.RowKit Go.Proofs.Ytmppdgjnibamlab.PSf Go.Proofs.YtmppdgjnibamlabW.PrintWords
set_option linter.unusedVariables false
set_option linter.unusedSimpArgs false

theorem shl_byte {o : Int} (h0 : 0 ≤ o) (h1 : o ≤ 255) (i : Nat) : ∃ p : Int, (p = 16777216 ∨ p = 65536 ∨ p = 256 ∨ p = 1) ∧ ∀ o : Int, 0 ≤ o → o ≤ 255 → shl .u32 (o % 4294967296) (24 - 8 * ((i % 4 : Nat) : Int)) = o * p := by
  have h : ∀ o : Int, 0 ≤ o → o ≤ 255 → o % 4294967296 = o := fun o _ _ => by omega
  have hw : ∀ x : Int, 0 ≤ x → x < 4294967296 → IntKind.u32.wrap x = x := fun x h0 h1 => by simp [IntKind.wrap, IntKind.bits, IntKind.signed]; omega
  rcases (show i % 4 = 0 ∨ i % 4 = 1 ∨ i % 4 = 2 ∨ i % 4 = 3 by omega) with e | e | e | e <;> rw [e]
  · exact ⟨16777216, by simp, fun o h0 h1 => by rw [h o h0 h1]; unfold shl; rw [show min (24 - 8 * ((0 : Nat) : Int)).toNat IntKind.u32.bits = 24 from rfl, show (2 : Int) ^ 24 = 16777216 from rfl]; exact hw _ (by omega) (by omega)⟩
  · exact ⟨65536, by simp, fun o h0 h1 => by rw [h o h0 h1]; unfold shl; rw [show min (24 - 8 * ((1 : Nat) : Int)).toNat IntKind.u32.bits = 16 from rfl, show (2 : Int) ^ 16 = 65536 from rfl]; exact hw _ (by omega) (by omega)⟩
  · exact ⟨256, by simp, fun o h0 h1 => by rw [h o h0 h1]; unfold shl; rw [show min (24 - 8 * ((2 : Nat) : Int)).toNat IntKind.u32.bits = 8 from rfl, show (2 : Int) ^ 8 = 256 from rfl]; exact hw _ (by omega) (by omega)⟩
  · exact ⟨1, by simp, fun o h0 h1 => by rw [h o h0 h1]; unfold shl; rw [show min (24 - 8 * ((3 : Nat) : Int)).toNat IntKind.u32.bits = 0 from rfl, show (2 : Int) ^ 0 = 1 from rfl]; exact hw _ (by omega) (by omega)⟩
theorem sumG_app : ∀ (x y : List Int) (i : Nat) (a : Int), sumG (x ++ y) i a = sumG y (i + x.length) (sumG x i a)
  | [], y, i, a => rfl
  | c :: x, y, i, a => by
    show sumG (x ++ y) (i + 1) _ = sumG y (i + (x.length + 1)) (sumG x (i + 1) _)
    rw [sumG_app x y (i + 1) _, show i + 1 + x.length = i + (x.length + 1) by omega]
theorem sumG_plus : ∀ (y : List Int) (i : Nat) (a : Int), 0 ≤ a → a < 4294967296 → sumG y i a = (a + sumG y i 0) % 4294967296
  | [], i, a, h0, h1 => by show a = (a + 0) % 4294967296; omega
  | c :: y, i, a, h0, h1 => by
    show sumG y (i + 1) ((a + shl .u32 (c % 4294967296) (24 - 8 * ((i % 4 : Nat) : Int))) % 4294967296) = (a + sumG y (i + 1) ((0 + shl .u32 (c % 4294967296) (24 - 8 * ((i % 4 : Nat) : Int))) % 4294967296)) % 4294967296
    generalize shl .u32 (c % 4294967296) (24 - 8 * ((i % 4 : Nat) : Int)) = v
    rw [sumG_plus y (i + 1) ((a + v) % 4294967296) (by omega) (by omega), sumG_plus y (i + 1) ((0 + v) % 4294967296) (by omega) (by omega)]
    generalize sumG y (i + 1) 0 = u
    omega
/-- One byte turned: another sum. -/
theorem sumB_turn {p q : List Int} {o c : Int} (h0 : 0 ≤ o) (h1 : o ≤ 255) (h2 : 0 ≤ c) (h3 : c ≤ 255) (h : sumB (p ++ c :: q) = sumB (p ++ o :: q)) : c = o := by
  unfold sumB at h
  rw [sumG_app, sumG_app] at h
  have hA := sumG_range p 0 0 (by omega) (by omega)
  generalize sumG p 0 0 = A at h hA
  generalize 0 + p.length = i at h
  obtain ⟨w, hw, hs⟩ := shl_byte h0 h1 i
  rw [sumG, sumG, hs c h2 h3, hs o h0 h1, sumG_plus q (i + 1) ((A + c * w) % 4294967296) (by omega) (by omega), sumG_plus q (i + 1) ((A + o * w) % 4294967296) (by omega) (by omega)] at h
  generalize sumG q (i + 1) 0 = R at h
  rcases hw with rfl | rfl | rfl | rfl <;> omega
theorem cancel_len {a b x y : List Int} (h : a ++ x = b ++ y) (hl : a.length = b.length) : a = b ∧ x = y := List.append_inj h hl
theorem turn_no : ∀ (m : List S115) (k : Nat) (c a : Int), k < (bodL m).length → (bodL m)[k]? ≠ some c → 0 ≤ c → c ≤ 255 → bytesT m →
    ¬ (dirL (tabs m ((bodL m).set k c)) a = dirL m a ∧ bodL (tabs m ((bodL m).set k c)) = (bodL m).set k c)
  | [], k, c, a, hk, _, _, _, _ => by simp [bodL] at hk
  | t :: r, k, c, a, hk, hne, h0, h1, hby => by
    rw [bodL_cons_len] at hk
    have ht := hby t (by simp)
    rw [List.all_eq_true] at ht
    have hpl : (pads t.f1.length).length = padN t.f1.length 4 := by simp [pads]
    rintro ⟨hd, hbd⟩
    rw [tabs, dirL, dirL] at hd
    obtain ⟨-, hd⟩ := cancel_len hd rfl
    obtain ⟨hs, hd⟩ := cancel_len hd (by rw [be_len, be_len])
    obtain ⟨-, hd⟩ := cancel_len hd rfl
    obtain ⟨-, hd⟩ := cancel_len hd (by rw [be_len, be_len])
    have hsum := be_inj (sumB_range _).1 (sumB_range _).2 (sumB_range _).1 (sumB_range _).2 hs
    rw [tabs, bodL] at hbd
    simp only at hsum hd hbd
    rw [bodL] at hne hsum hd hbd
    by_cases hk1 : k < t.f1.length
    · rw [List.set_append_left _ _ hk1, List.take_left' (by rw [List.length_set])] at hsum
      have e : t.f1 = t.f1.take k ++ t.f1[k] :: t.f1.drop (k + 1) := by rw [← List.drop_eq_getElem_cons hk1, List.take_append_drop]
      have e2 : t.f1.set k c = t.f1.take k ++ c :: t.f1.drop (k + 1) := List.set_eq_take_append_cons_drop .. |>.trans (by rw [if_pos hk1])
      have hb := ht t.f1[k] (List.getElem_mem hk1)
      simp only [byteB, Bool.and_eq_true, decide_eq_true_eq] at hb
      rw [e2] at hsum
      have hsum2 : sumB (t.f1.take k ++ c :: t.f1.drop (k + 1)) = sumB (t.f1.take k ++ t.f1[k] :: t.f1.drop (k + 1)) := by rw [hsum, ← e]
      have := sumB_turn hb.1 hb.2 h0 h1 hsum2
      apply hne
      rw [List.getElem?_append_left hk1, List.getElem?_eq_getElem hk1, this]
    · rw [List.set_append_right _ _ (by omega)] at hd hbd
      rw [List.take_left] at hd hbd
      obtain ⟨-, hbd⟩ := cancel_len hbd rfl
      rw [List.getElem?_append_right (by omega)] at hne
      by_cases hk2 : k - t.f1.length < padN t.f1.length 4
      · rw [List.set_append_left _ _ (by rw [hpl]; exact hk2)] at hbd
        obtain ⟨hq, -⟩ := cancel_len hbd (by rw [List.length_set])
        apply hne
        rw [List.getElem?_append_left (by rw [hpl]; exact hk2), hq, List.getElem?_set_self (by rw [hpl]; exact hk2)]
      · rw [List.set_append_right _ _ (by rw [hpl]; omega), hpl] at hbd hd
        obtain ⟨-, hbd⟩ := cancel_len hbd rfl
        rw [List.getElem?_append_right (by rw [hpl]; omega), hpl] at hne
        rw [← List.append_assoc, List.drop_left' (by rw [List.length_append, hpl])] at hd hbd
        exact turn_no r (k - t.f1.length - padN t.f1.length 4) c _ (by omega) hne h0 h1 (fun t ht => hby t (by simp [ht])) ⟨hd, hbd⟩
theorem tabs_len : ∀ (m : List S115) (Y : List Int), (tabs m Y).length = m.length
  | [], _ => rfl
  | t :: r, Y => by simp [tabs, tabs_len r]
theorem tabs_ok : ∀ (m : List S115) (Y : List Int), (∀ t ∈ m, okT t) → ∀ t ∈ tabs m Y, okT t
  | [], _, _ => by simp [tabs]
  | t :: r, Y, h => by
    intro u hu
    rcases List.mem_cons.1 hu with rfl | hu
    · have := h t (by simp)
      exact ⟨this.1, by show (Y.take t.f1.length).length ≤ 1048576; rw [List.length_take]; have := this.2; omega⟩
    · exact tabs_ok r _ (fun t ht => h t (by simp [ht])) u hu
theorem tabs_tags : ∀ (m : List S115) (Y : List Int), (tabs m Y).map (·.f0) = m.map (·.f0)
  | [], _ => rfl
  | t :: r, Y => by simp [tabs, tabs_tags r]
theorem rising_map {m : List S115} : rising m ↔ (m.map (·.f0)).Pairwise (fun a b => bef a b = true) := by unfold rising; rw [List.pairwise_map]
/-- A file with a byte of its tables turned is refused. -/
theorem unpackP_turned {m : List S115} {k : Nat} {c : Int} (hok : ∀ t ∈ m, okT t) (h1 : m.length ≤ 32) (hri : rising m) (hby : bytesT m) (hk : k < (bodL m).length) (hne : (bodL m)[k]? ≠ some c) (h0 : 0 ≤ c) (h2 : c ≤ 255) :
    unpackP (headL m.length ++ dirL m (12 + 16 * (m.length : Int)) ++ (bodL m).set k c) = ([], 2) := by
  rw [unpackP_lay hok h1 (by rw [List.length_set]) hri]
  unfold endP
  split
  · rename_i hp
    split
    · rename_i he
      exfalso
      have hri2 : rising (tabs m ((bodL m).set k c)) := by rw [rising_map, tabs_tags, ← rising_map]; exact hri
      unfold packP at he hp
      split at hp
      · rename_i hm
        rw [if_pos hm] at he
        split at hp
        · rename_i hl
          rw [if_pos hl, rising_sort hri2] at he
          unfold lay at he
          rw [tabs_len] at he
          obtain ⟨e1, e2⟩ := cancel_len he (by rw [List.length_append, List.length_append, dirL_len _ _ hok, dirL_len _ _ (tabs_ok m _ hok), tabs_len])
          obtain ⟨-, e3⟩ := cancel_len e1 rfl
          exact turn_no m k c _ hk hne h0 h2 hby ⟨e3.symm, e2.symm⟩
        · exact absurd hp (by simp)
      · exact absurd hp (by simp)
    · rfl
  · rfl
theorem xor_ne {x y : Int} (h0 : 0 ≤ x) (h1 : x ≤ 255) (h2 : 0 ≤ y) (h3 : y ≤ 255) (hy : y ≠ 0) : bits .xor .u8 x y ≠ x ∧ 0 ≤ bits .xor .u8 x y ∧ bits .xor .u8 x y ≤ 255 := by
  have hb : bits .xor .u8 x y = ((BitVec.ofInt 8 x ^^^ BitVec.ofInt 8 y).toNat : Int) := by
    show IntKind.u8.wrap ((BitVec.ofInt 8 x ^^^ BitVec.ofInt 8 y).toNat : Int) = _
    have := (BitVec.ofInt 8 x ^^^ BitVec.ofInt 8 y).isLt
    generalize (BitVec.ofInt 8 x ^^^ BitVec.ofInt 8 y).toNat = z at this ⊢
    simp only [IntKind.wrap, IntKind.bits, IntKind.signed]
    simp
    omega
  rw [hb]
  have hlt := (BitVec.ofInt 8 x ^^^ BitVec.ofInt 8 y).isLt
  refine ⟨fun e => ?_, by omega, by omega⟩
  have hx : (BitVec.ofInt 8 x).toNat = x.toNat := by rw [BitVec.toNat_ofInt]; omega
  have e2 : BitVec.ofInt 8 x ^^^ BitVec.ofInt 8 y = BitVec.ofInt 8 x := by
    apply BitVec.eq_of_toNat_eq
    rw [hx]; omega
  have e3 : BitVec.ofInt 8 y = 0#8 := by
    have : BitVec.ofInt 8 x ^^^ (BitVec.ofInt 8 x ^^^ BitVec.ofInt 8 y) = BitVec.ofInt 8 x ^^^ BitVec.ofInt 8 x := by rw [e2]
    rwa [← BitVec.xor_assoc, BitVec.xor_self, BitVec.zero_xor] at this
  have e4 : (BitVec.ofInt 8 y).toNat = 0 := by rw [e3]; rfl
  rw [BitVec.toNat_ofInt] at e4
  omega

/-! ### sizes -/
def tot : List S115 → Nat
  | [] => 0
  | t :: r => 20 + t.f1.length + tot r
theorem few_ev (l : List S115) (hl : l.length ≤ 1000000000000000) : ∃ b, Ev (fun k => foundrylaw05_few.f k l) b ∧ (b = true → tot l ≤ 20000) := by
  have h : ∀ d i : Nat, i + d = l.length → ∀ acc : Int, 0 ≤ acc → acc ≤ 60000 → ∃ b, Ev (fun k => foundrylaw05_few.l0 k l acc (i : Int)) b ∧ (b = true → acc + (tot (l.drop i) : Int) ≤ 20000) := by
    intro d
    induction d with
    | zero =>
      intro i hi acc h0 h1
      by_cases ha : acc ≤ 20000
      · exact ⟨_, Ev.step (fun k => by rw [foundrylaw05_few.l0, if_neg (by omega), if_pos ha]) (Ev.now _), fun _ => by rw [List.drop_of_length_le (by omega)]; show acc + ((0 : Nat) : Int) ≤ 20000; omega⟩
      · exact ⟨false, Ev.step (fun k => by rw [foundrylaw05_few.l0, if_neg (by omega), if_neg ha]) (Ev.now _), fun h => by cases h⟩
    | succ d ih =>
      intro i hi acc h0 h1
      have hlt : i < l.length := by omega
      by_cases ha : acc ≤ 20000
      · have e : rd_T115 l (i : Int) = l[i] := by simp [rd_T115, hlt]
        obtain ⟨mm, hmq⟩ : ∃ mm, mn (l[i].f1.length : Int) 30000 = mm := ⟨_, rfl⟩
        have hmn : mm ≤ 30000 ∧ 0 ≤ mm ∧ (mm = (l[i].f1.length : Int) ∨ mm = 30000) := by rw [← hmq]; unfold mn; omega
        have w2 : wrap64 (acc + (20 + mm)) = acc + (20 + mm) := by unfold wrap64; omega
        have w3 : wrap64 ((i : Int) + 1) = ((i + 1 : Nat) : Int) := by unfold wrap64; omega
        obtain ⟨b, hev, hb⟩ := ih (i + 1) (by omega) (acc + (20 + mm)) (by omega) (by omega)
        refine ⟨b, Ev.step (fun k => by rw [foundrylaw05_few.l0, if_pos (by omega), if_pos ha, if_pos (by omega), e, hmq, w2, w3]) hev, fun h => ?_⟩
        have h5 := hb h
        rw [List.drop_eq_getElem_cons hlt, tot]
        omega
      · exact ⟨false, Ev.step (fun k => by rw [foundrylaw05_few.l0, if_pos (by omega), if_neg ha]) (Ev.now _), fun h => by cases h⟩
  obtain ⟨b, h1, h2⟩ := h l.length 0 (by omega) 0 (by omega) (by omega)
  exact ⟨b, h1, fun hb => by have := h2 hb; rw [List.drop_zero] at this; omega⟩
theorem tot_perm {l m : List S115} (h : l.Perm m) : tot l = tot m := by
  induction h with
  | nil => rfl
  | cons x _ ih => simp only [tot, ih]
  | swap x y l => simp only [tot]; omega
  | trans _ _ h1 h2 => rw [h1, h2]
theorem bodL_tot : ∀ m : List S115, (bodL m).length ≤ tot m
  | [] => Nat.le_refl _
  | t :: r => by
    have := bodL_tot r
    have hp : padN t.f1.length 4 < 4 := by unfold padN; omega
    rw [bodL_cons_len, tot]; omega
theorem lay_tot {m : List S115} (h : ∀ t ∈ m, okT t) : (lay m).length = 12 + 16 * m.length + (bodL m).length := by
  simp only [lay, List.length_append, headL_len, dirL_len m _ h]
end Go.Proofs.Ytmppdgjnibamlab.Pag
