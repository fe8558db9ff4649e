/- What sfnt.Unpack answers, told plainly. -/
import Derived.Test.YtmppdgjnibamlaaPSfx2
import Derived.Test.YtmppdgjnibamlaaSfL
namespace Go.Proofs.Ytmppdgjnibamlaa.Pag
open Go.RowKit Go.Proofs.Ytmppdgjnibamlaa.PSf Go.Proofs.YtmppdgjnibamlaaW.PrintWords
set_option linter.unusedVariables false
set_option linter.unusedSimpArgs false

def packP (l : List S72) : List Int × Int := if fm l = true then (if (lay (sortT l)).length ≤ 1048576 then (lay (sortT l), 0) else ([], 3)) else ([], 1)
def fieldP (b : List Int) (a n : Int) : Int × Bool := if a < 0 ∨ a > (b.length : Int) - n then (0, false) else (numBE ((b.drop a.toNat).take n.toNat), true)
def cutP (b : List Int) (a s : Int) : List Int × Bool := if s < 0 ∨ a < 0 ∨ a > (b.length : Int) - s then ([], false) else ((b.drop a.toNat).take s.toNat, true)
def tagP (b : List Int) (a : Int) : ByteArray × Bool := if a < 0 ∨ a > (b.length : Int) - 4 then (⟨#[]⟩, false) else if good (strOfNums ((b.drop a.toNat).take 4)) = true then (strOfNums ((b.drop a.toNat).take 4), true) else (⟨#[]⟩, false)
theorem u16_eq {b : List Int} (h : b.all byteB = true) (a : Int) : octets_U16.f b a = some (fieldP b a 2) := by
  unfold octets_U16.f octets_field.f fieldP
  rw [if_pos ⟨h, by omega, by omega⟩]
  split <;> rfl
theorem u32_eq {b : List Int} (h : b.all byteB = true) (a : Int) : octets_U32.f b a = some (fieldP b a 4) := by
  unfold octets_U32.f octets_field.f fieldP
  rw [if_pos ⟨h, by omega, by omega⟩]
  split <;> rfl
theorem cut_eq {b : List Int} (h : b.length ≤ 140737488355328) (a : Int) {s : Int} (hs : s ≤ 9223372036854775807) : octets_Cut.f b a s = some (cutP b a s) := by
  unfold octets_Cut.f cutP
  rw [if_pos ⟨h, hs⟩]
  split <;> rfl
theorem tag_eq {b : List Int} (h : b.length ≤ 140737488355328) (a : Int) : octets_Tag.f b a = some (tagP b a) := by
  unfold octets_Tag.f tagP
  rw [if_pos h]
  split
  · rfl
  · split <;> rfl
theorem fieldP_range {b : List Int} (h : b.all byteB = true) (a : Int) {n : Int} (hn : n = 2 ∨ n = 4) : 0 ≤ (fieldP b a n).1 ∧ (fieldP b a n).1 < 4294967296 := by
  unfold fieldP
  split
  · simp
  · have h1 := numBE_range ((b.drop a.toNat).take n.toNat) (by rw [List.all_eq_true] at h ⊢; exact fun x hx => h x (List.mem_of_mem_drop (List.mem_of_mem_take hx)))
    have h2 : (256 : Int) ^ ((b.drop a.toNat).take n.toNat).length ≤ 256 ^ 4 := by
      have : ((b.drop a.toNat).take n.toNat).length ≤ 4 := by rw [List.length_take]; rcases hn with rfl | rfl <;> simp <;> omega
      generalize ((b.drop a.toNat).take n.toNat).length = k at *
      rcases (show k = 0 ∨ k = 1 ∨ k = 2 ∨ k = 3 ∨ k = 4 by omega) with rfl | rfl | rfl | rfl | rfl <;> decide
    have h3 : (256 : Int) ^ 4 = 4294967296 := by decide
    simp only
    omega
theorem tagP_size (b : List Int) (a : Int) : (tagP b a).1.size ≤ 4 := by
  unfold tagP
  split
  · show (0 : Nat) ≤ 4; omega
  · split
    · rw [strOfNums_size, List.length_take]; omega
    · show (0 : Nat) ≤ 4; omega
theorem cutP_bytes {b : List Int} (h : b.all byteB = true) (a s : Int) : (cutP b a s).1.all byteB = true := by
  unfold cutP
  split
  · rfl
  · rw [List.all_eq_true] at h ⊢
    exact fun x hx => h x (List.mem_of_mem_drop (List.mem_of_mem_take hx))
/-- The table that entry i tells. -/
def tabP (b : List Int) (i : Nat) : S72 := ⟨(tagP b (12 + 16 * (i : Int))).1, (cutP b (fieldP b (20 + 16 * (i : Int)) 4).1 (fieldP b (24 + 16 * (i : Int)) 4).1).1⟩
def okP (b : List Int) (i : Nat) (acc : List S72) : Bool :=
  (tagP b (12 + 16 * (i : Int))).2 && (fieldP b (24 + 16 * (i : Int)) 4).2 && (cutP b (fieldP b (20 + 16 * (i : Int)) 4).1 (fieldP b (24 + 16 * (i : Int)) 4).1).2 && (decide (i = 0) || bef (rd_T72 acc ((i : Int) - 1)).f0 (tagP b (12 + 16 * (i : Int))).1)
def unL (b : List Int) : Nat → Nat → List S72 → Option (List S72)
  | 0, _, acc => some acc
  | d + 1, i, acc => if okP b i acc = true then unL b d (i + 1) (acc ++ [tabP b i]) else none
def endP (b : List Int) (l : List S72) : List S72 × Int := if (packP l).2 = 0 then (if b = (packP l).1 then (l, 0) else ([], 2)) else ([], 2)
def unpackP (b : List Int) : List S72 × Int :=
  if (fieldP b 4 2).2 = true ∧ (fieldP b 4 2).1 ≤ 32 then (match unL b (fieldP b 4 2).1.toNat 0 [] with | some l => endP b l | none => ([], 2)) else ([], 2)
theorem nums_inj {x y : List Int} (hx : x.all byteB = true) (hy : y.all byteB = true) (h : (strOfNums x).toList = (strOfNums y).toList) : x = y := by
  rw [Lib.strOfNums_toList, Lib.strOfNums_toList] at h
  unfold Lib.bytesOf at h
  induction x generalizing y with
  | nil => cases y with
    | nil => rfl
    | cons b y => simp at h
  | cons a x ih => cases y with
    | nil => simp at h
    | cons b y =>
      simp only [List.map_cons, List.cons.injEq] at h
      simp only [List.all_cons, Bool.and_eq_true, byteB, decide_eq_true_eq] at hx hy
      have e := congrArg UInt8.toNat h.1
      simp only [UInt8.toNat_ofNat'] at e
      have : a = b := by omega
      rw [this, ih hx.2 hy.2 h.2]
theorem all_app {a b : List Int} (h1 : a.all byteB = true) (h2 : b.all byteB = true) : (a ++ b).all byteB = true := by simp [List.all_append, h1, h2]
theorem be_all (x : Int) (n : Nat) : (be x n).all byteB = true := by
  rw [List.all_eq_true]
  intro c hc
  simp only [be, List.mem_map] at hc
  obtain ⟨i, _, rfl⟩ := hc
  simp [byteB]; omega
theorem bytesOf_all (s : ByteArray) : (bytesOf s).all byteB = true := by
  rw [List.all_eq_true]
  intro c hc
  simp only [bytesOf, List.mem_map] at hc
  obtain ⟨u, _, rfl⟩ := hc
  have := u.toNat_lt
  simp [byteB]; omega
def bytesT (l : List S72) : Prop := ∀ t ∈ l, t.f1.all byteB = true
theorem dirL_all : ∀ (m : List S72) (a : Int), (dirL m a).all byteB = true
  | [], _ => rfl
  | t :: r, a => all_app (bytesOf_all _) (all_app (be_all _ _) (all_app (be_all _ _) (all_app (be_all _ _) (dirL_all r _))))
theorem pads_all (n : Nat) : (pads n).all byteB = true := by
  rw [List.all_eq_true]
  intro c hc
  rw [(List.mem_replicate.1 hc).2]; rfl
theorem bodL_all : ∀ (m : List S72), bytesT m → (bodL m).all byteB = true
  | [], _ => rfl
  | t :: r, h => all_app (h t (by simp)) (all_app (pads_all _) (bodL_all r (fun t ht => h t (by simp [ht]))))
theorem lay_all {m : List S72} (h : bytesT m) : (lay m).all byteB = true :=
  all_app (all_app (all_app (all_app (all_app (all_app (be_all _ _) (be_all _ _)) (be_all _ _)) (be_all _ _)) (be_all _ _)) (dirL_all _ _)) (bodL_all m h)
theorem packP_all {l : List S72} (h : bytesT l) : (packP l).1.all byteB = true := by
  unfold packP
  split
  · split
    · exact lay_all (fun t ht => h t ((sortT_perm l).mem_iff.1 ht))
    · rfl
  · rfl
theorem fits_of {l : List S72} (h1 : l.length ≤ 1000) (h2 : ∀ t ∈ l, t.f0.size ≤ 4) : fits l = true := by
  unfold fits
  rw [Bool.and_eq_true, decide_eq_true_eq, List.all_eq_true]
  exact ⟨by omega, fun t ht => decide_eq_true (by have := h2 t ht; omega)⟩
theorem un_ev {b : List Int} (hb : b.all byteB = true) (hl : b.length ≤ 1048576) (n : Nat) (hn : n ≤ 32) : ∀ d i : Nat, i + d = n → ∀ acc : List S72, acc.length = i → (∀ t ∈ acc, t.f0.size ≤ 4) → bytesT acc →
    Ev (fun k => sfnt_Unpack.l0 k b acc (n : Int) (i : Int)) (match unL b d i acc with | some l => endP b l | none => ([], 2)) := by
  intro d
  induction d with
  | zero =>
    intro i hi acc ha hs hy
    have hp : sfnt_Pack.f acc = some (packP acc) := pack_eq (fits_of (by omega) hs)
    refine Ev.step (fun k => by rw [sfnt_Unpack.l0, if_neg (by omega), hp, Option.bind_some]) ?_
    unfold unL endP
    by_cases h0 : (packP acc).2 = 0
    · simp only [if_pos h0]
      by_cases he : b = (packP acc).1
      · simp only [← he, if_true]
        exact Ev.congr (fun k => by rw [bytes_Equal.f, Option.bind_some, if_pos (by simp)]) (Ev.now _)
      · simp only [if_neg he]
        have hne : ¬ (((strOfNums b).toList == (strOfNums (packP acc).1).toList) = true) := fun h => he (nums_inj hb (packP_all hy) (by simpa using h))
        exact Ev.congr (fun k => by rw [bytes_Equal.f, Option.bind_some, if_neg hne]) (Ev.now _)
    · simp only [if_neg h0]
      exact Ev.now _
  | succ d ih =>
    intro i hi acc ha hs hy
    have w1 : wrap64 (12 + wrap64 (16 * (i : Int))) = 12 + 16 * (i : Int) := by unfold wrap64; omega
    have w2 : wrap64 (20 + wrap64 (16 * (i : Int))) = 20 + 16 * (i : Int) := by unfold wrap64; omega
    have w3 : wrap64 (24 + wrap64 (16 * (i : Int))) = 24 + 16 * (i : Int) := by unfold wrap64; omega
    have w4 : wrap64 ((i : Int) + 1) = ((i + 1 : Nat) : Int) := by unfold wrap64; omega
    have w5 : 0 < i → wrap64 ((i : Int) - 1) = (i : Int) - 1 := fun h => by unfold wrap64; omega
    have r2 := fieldP_range hb (24 + 16 * (i : Int)) (n := 4) (.inr rfl)
    have hst : ∀ k, sfnt_Unpack.l0 (k + 1) b acc (n : Int) (i : Int) = if okP b i acc = true then sfnt_Unpack.l0 k b (acc ++ [tabP b i]) (n : Int) ((i + 1 : Nat) : Int) else some ([], 2) := by
      intro k
      rw [sfnt_Unpack.l0, if_pos (by omega), w1, w2, w3, tag_eq (by omega), Option.bind_some, u32_eq hb, Option.bind_some, u32_eq hb, Option.bind_some, cut_eq (by omega) _ (by omega), Option.bind_some, w4]
      unfold okP tabP
      generalize tagP b (12 + 16 * (i : Int)) = t
      generalize fieldP b (24 + 16 * (i : Int)) 4 = s
      generalize cutP b (fieldP b (20 + 16 * (i : Int)) 4).1 s.1 = c
      cases t.2
      · simp
      · cases s.2
        · simp
        · cases c.2
          · simp
          · rw [if_pos rfl, if_pos rfl, if_pos rfl]
            by_cases h0 : i = 0
            · subst h0
              rw [if_neg (by omega), if_pos (by omega)]
              simp
            · rw [if_pos (by omega), w5 (by omega), if_pos (by omega), if_pos (by omega)]
              by_cases h1 : Op.bytesLess (rd_T72 acc ((i : Int) - 1)).f0.toList t.1.toList = true
              · rw [if_pos h1, if_pos (by omega)]
                simp [bef, h1]
              · rw [if_neg h1]
                simp [bef, h1, h0]
    refine Ev.step hst ?_
    unfold unL
    by_cases ho : okP b i acc = true
    · simp only [if_pos ho]
      refine ih (i + 1) (by omega) _ (by simp [ha]) ?_ ?_
      · intro t ht
        rcases List.mem_append.1 ht with ht | ht
        · exact hs t ht
        · rw [List.mem_singleton.1 ht]; exact tagP_size _ _
      · intro t ht
        rcases List.mem_append.1 ht with ht | ht
        · exact hy t ht
        · rw [List.mem_singleton.1 ht]; exact cutP_bytes hb _ _
    · simp only [if_neg ho]
      exact Ev.now _
theorem unpack_ev {b : List Int} (hb : b.all byteB = true) (hl : b.length ≤ 1048576) : Ev (fun k => sfnt_Unpack.f k b) (unpackP b) := by
  unfold sfnt_Unpack.f unpackP
  simp only [if_neg (show ¬ ((b.length : Int) > 1048576) by omega)]
  refine Ev.congr (fun k => by rw [u16_eq hb, Option.bind_some]) ?_
  have hr := fieldP_range hb 4 (n := 2) (.inl rfl)
  generalize fieldP b 4 2 = q at hr
  have no : Ev (fun k => sfnt_Unpack.j0 k b q.1 true) ([], 2) := Ev.step (fun k => by rw [sfnt_Unpack.j0, if_pos rfl]) (Ev.now _)
  cases h2 : q.2 with
  | false => simp only [Bool.false_eq_true, if_false, false_and]; exact no
  | true =>
    by_cases h3 : q.1 ≤ 32
    · simp only [if_true, true_and, h3]
      obtain ⟨m, hm⟩ : ∃ m : Nat, q.1 = (m : Int) := ⟨q.1.toNat, by omega⟩
      rw [hm] at h3 ⊢
      simp only [Int.toNat_natCast]
      rw [decide_eq_false (by omega)]
      exact Ev.step (fun k => by rw [sfnt_Unpack.j0, if_neg (by simp)]; rfl) (un_ev hb hl m (by omega) m 0 (by omega) [] rfl (by simp) (fun t ht => by simp at ht))
    · simp only [if_true, true_and, h3, if_false]
      rw [decide_eq_true (by omega)]
      exact no
theorem unL_facts {b : List Int} (hb : b.all byteB = true) : ∀ d i acc l, unL b d i acc = some l → (∀ t ∈ acc, t.f0.size ≤ 4) → bytesT acc → l.length = acc.length + d ∧ (∀ t ∈ l, t.f0.size ≤ 4) ∧ bytesT l := by
  intro d
  induction d with
  | zero => intro i acc l h h1 h2; obtain rfl := Option.some.inj h; exact ⟨rfl, h1, h2⟩
  | succ d ih =>
    intro i acc l h h1 h2
    unfold unL at h
    split at h
    · obtain ⟨e1, e2, e3⟩ := ih (i + 1) _ l h (fun t ht => by
        rcases List.mem_append.1 ht with ht | ht
        · exact h1 t ht
        · rw [List.mem_singleton.1 ht]; exact tagP_size _ _) (fun t ht => by
        rcases List.mem_append.1 ht with ht | ht
        · exact h2 t ht
        · rw [List.mem_singleton.1 ht]; exact cutP_bytes hb _ _)
      exact ⟨by rw [e1, List.length_append]; simp; omega, e2, e3⟩
    · cases h
/-- What is unpacked is packed to its bytes. -/
theorem unpackP_or {b : List Int} (hb : b.all byteB = true) : unpackP b = ([], 2) ∨ ∃ l, unpackP b = (l, 0) ∧ packP l = (b, 0) ∧ l.length ≤ 32 ∧ (∀ t ∈ l, t.f0.size ≤ 4) ∧ bytesT l := by
  unfold unpackP
  split
  · rename_i hq
    cases hu : unL b (fieldP b 4 2).1.toNat 0 [] with
    | none => exact .inl rfl
    | some l =>
      obtain ⟨e1, e2, e3⟩ := unL_facts hb _ _ _ l hu (by simp) (fun t ht => by simp at ht)
      simp only
      unfold endP
      split
      · split
        · rename_i h1 h2
          exact .inr ⟨l, rfl, by rw [h2, ← h1], by rw [e1]; simp; omega, e2, e3⟩
        · exact .inl rfl
      · exact .inl rfl
  · exact .inl rfl
end Go.Proofs.Ytmppdgjnibamlaa.Pag
