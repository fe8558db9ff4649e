/- A file of which a byte was turned: plain. -/
import Derived.Test.YtmppdgjnibamlaaSfT
namespace Go.Proofs.Ytmppdgjnibamlaa.Pag
open Go.RowKit Go.Proofs.Ytmppdgjnibamlaa.PSf Go.Proofs.YtmppdgjnibamlaaW.PrintWords
set_option linter.unusedVariables false
set_option linter.unusedSimpArgs false

theorem shl_byte {o : Int} (h0 : 0 ≤ o) (h1 : o ≤ 255) (i : Nat) : ∃ p : Int, (p = 16777216 ∨ p = 65536 ∨ p = 256 ∨ p = 1) ∧ ∀ o : Int, 0 ≤ o → o ≤ 255 → shl .u32 (o % 4294967296) (24 - 8 * ((i % 4 : Nat) : Int)) = o * p := by
  have h : ∀ o : Int, 0 ≤ o → o ≤ 255 → o % 4294967296 = o := fun o _ _ => by omega
  have hw : ∀ x : Int, 0 ≤ x → x < 4294967296 → IntKind.u32.wrap x = x := fun x h0 h1 => by simp [IntKind.wrap, IntKind.bits, IntKind.signed]; omega
  rcases (show i % 4 = 0 ∨ i % 4 = 1 ∨ i % 4 = 2 ∨ i % 4 = 3 by omega) with e | e | e | e <;> rw [e]
  · exact ⟨16777216, by simp, fun o h0 h1 => by rw [h o h0 h1]; unfold shl; rw [show min (24 - 8 * ((0 : Nat) : Int)).toNat IntKind.u32.bits = 24 from rfl, show (2 : Int) ^ 24 = 16777216 from rfl]; exact hw _ (by omega) (by omega)⟩
  · exact ⟨65536, by simp, fun o h0 h1 => by rw [h o h0 h1]; unfold shl; rw [show min (24 - 8 * ((1 : Nat) : Int)).toNat IntKind.u32.bits = 16 from rfl, show (2 : Int) ^ 16 = 65536 from rfl]; exact hw _ (by omega) (by omega)⟩
  · exact ⟨256, by simp, fun o h0 h1 => by rw [h o h0 h1]; unfold shl; rw [show min (24 - 8 * ((2 : Nat) : Int)).toNat IntKind.u32.bits = 8 from rfl, show (2 : Int) ^ 8 = 256 from rfl]; exact hw _ (by omega) (by omega)⟩
  · exact ⟨1, by simp, fun o h0 h1 => by rw [h o h0 h1]; unfold shl; rw [show min (24 - 8 * ((3 : Nat) : Int)).toNat IntKind.u32.bits = 0 from rfl, show (2 : Int) ^ 0 = 1 from rfl]; exact hw _ (by omega) (by omega)⟩
theorem sumG_app : ∀ (x y : List Int) (i : Nat) (a : Int), sumG (x ++ y) i a = sumG y (i + x.length) (sumG x i a)
  | [], y, i, a => rfl
  | c :: x, y, i, a => by
    show sumG (x ++ y) (i + 1) _ = sumG y (i + (x.length + 1)) (sumG x (i + 1) _)
    rw [sumG_app x y (i + 1) _, show i + 1 + x.length = i + (x.length + 1) by omega]
theorem sumG_plus : ∀ (y : List Int) (i : Nat) (a : Int), 0 ≤ a → a < 4294967296 → sumG y i a = (a + sumG y i 0) % 4294967296
  | [], i, a, h0, h1 => by show a = (a + 0) % 4294967296; omega
  | c :: y, i, a, h0, h1 => by
    show sumG y (i + 1) ((a + shl .u32 (c % 4294967296) (24 - 8 * ((i % 4 : Nat) : Int))) % 4294967296) = (a + sumG y (i + 1) ((0 + shl .u32 (c % 4294967296) (24 - 8 * ((i % 4 : Nat) : Int))) % 4294967296)) % 4294967296
    generalize shl .u32 (c % 4294967296) (24 - 8 * ((i % 4 : Nat) : Int)) = v
    rw [sumG_plus y (i + 1) ((a + v) % 4294967296) (by omega) (by omega), sumG_plus y (i + 1) ((0 + v) % 4294967296) (by omega) (by omega)]
    generalize sumG y (i + 1) 0 = u
    omega
/-- One byte turned: another sum. -/
theorem sumB_turn {p q : List Int} {o c : Int} (h0 : 0 ≤ o) (h1 : o ≤ 255) (h2 : 0 ≤ c) (h3 : c ≤ 255) (h : sumB (p ++ c :: q) = sumB (p ++ o :: q)) : c = o := by
  unfold sumB at h
  rw [sumG_app, sumG_app] at h
  have hA := sumG_range p 0 0 (by omega) (by omega)
  generalize sumG p 0 0 = A at h hA
  generalize 0 + p.length = i at h
  obtain ⟨w, hw, hs⟩ := shl_byte h0 h1 i
  rw [sumG, sumG, hs c h2 h3, hs o h0 h1, sumG_plus q (i + 1) ((A + c * w) % 4294967296) (by omega) (by omega), sumG_plus q (i + 1) ((A + o * w) % 4294967296) (by omega) (by omega)] at h
  generalize sumG q (i + 1) 0 = R at h
  rcases hw with rfl | rfl | rfl | rfl <;> omega
theorem cancel_len {a b x y : List Int} (h : a ++ x = b ++ y) (hl : a.length = b.length) : a = b ∧ x = y := List.append_inj h hl
theorem turn_no : ∀ (m : List S72) (k : Nat) (c a : Int), k < (bodL m).length → (bodL m)[k]? ≠ some c → 0 ≤ c → c ≤ 255 → bytesT m →
    ¬ (dirL (tabs m ((bodL m).set k c)) a = dirL m a ∧ bodL (tabs m ((bodL m).set k c)) = (bodL m).set k c)
  | [], k, c, a, hk, _, _, _, _ => by simp [bodL] at hk
  | t :: r, k, c, a, hk, hne, h0, h1, hby => by
    rw [bodL_cons_len] at hk
    have ht := hby t (by simp)
    rw [List.all_eq_true] at ht
    have hpl : (pads t.f1.length).length = padN t.f1.length 4 := by simp [pads]
    rintro ⟨hd, hbd⟩
    rw [tabs, dirL, dirL] at hd
    obtain ⟨-, hd⟩ := cancel_len hd rfl
    obtain ⟨hs, hd⟩ := cancel_len hd (by rw [be_len, be_len])
    obtain ⟨-, hd⟩ := cancel_len hd rfl
    obtain ⟨-, hd⟩ := cancel_len hd (by rw [be_len, be_len])
    have hsum := be_inj (sumB_range _).1 (sumB_range _).2 (sumB_range _).1 (sumB_range _).2 hs
    rw [tabs, bodL] at hbd
    simp only at hsum hd hbd
    rw [bodL] at hne hsum hd hbd
    by_cases hk1 : k < t.f1.length
    · rw [List.set_append_left _ _ hk1, List.take_left' (by rw [List.length_set])] at hsum
      have e : t.f1 = t.f1.take k ++ t.f1[k] :: t.f1.drop (k + 1) := by rw [← List.drop_eq_getElem_cons hk1, List.take_append_drop]
      have e2 : t.f1.set k c = t.f1.take k ++ c :: t.f1.drop (k + 1) := List.set_eq_take_append_cons_drop .. |>.trans (by rw [if_pos hk1])
      have hb := ht t.f1[k] (List.getElem_mem hk1)
      simp only [byteB, Bool.and_eq_true, decide_eq_true_eq] at hb
      rw [e2] at hsum
      have hsum2 : sumB (t.f1.take k ++ c :: t.f1.drop (k + 1)) = sumB (t.f1.take k ++ t.f1[k] :: t.f1.drop (k + 1)) := by rw [hsum, ← e]
      have := sumB_turn hb.1 hb.2 h0 h1 hsum2
      apply hne
      rw [List.getElem?_append_left hk1, List.getElem?_eq_getElem hk1, this]
    · rw [List.set_append_right _ _ (by omega)] at hd hbd
      rw [List.take_left] at hd hbd
      obtain ⟨-, hbd⟩ := cancel_len hbd rfl
      rw [List.getElem?_append_right (by omega)] at hne
      by_cases hk2 : k - t.f1.length < padN t.f1.length 4
      · rw [List.set_append_left _ _ (by rw [hpl]; exact hk2)] at hbd
        obtain ⟨hq, -⟩ := cancel_len hbd (by rw [List.length_set])
        apply hne
        rw [List.getElem?_append_left (by rw [hpl]; exact hk2), hq, List.getElem?_set_self (by rw [hpl]; exact hk2)]
      · rw [List.set_append_right _ _ (by rw [hpl]; omega), hpl] at hbd hd
        obtain ⟨-, hbd⟩ := cancel_len hbd rfl
        rw [List.getElem?_append_right (by rw [hpl]; omega), hpl] at hne
        rw [← List.append_assoc, List.drop_left' (by rw [List.length_append, hpl])] at hd hbd
        exact turn_no r (k - t.f1.length - padN t.f1.length 4) c _ (by omega) hne h0 h1 (fun t ht => hby t (by simp [ht])) ⟨hd, hbd⟩
theorem tabs_len : ∀ (m : List S72) (Y : List Int), (tabs m Y).length = m.length
  | [], _ => rfl
  | t :: r, Y => by simp [tabs, tabs_len r]
theorem tabs_ok : ∀ (m : List S72) (Y : List Int), (∀ t ∈ m, okT t) → ∀ t ∈ tabs m Y, okT t
  | [], _, _ => by simp [tabs]
  | t :: r, Y, h => by
    intro u hu
    rcases List.mem_cons.1 hu with rfl | hu
    · have := h t (by simp)
      exact ⟨this.1, by show (Y.take t.f1.length).length ≤ 1048576; rw [List.length_take]; have := this.2; omega⟩
    · exact tabs_ok r _ (fun t ht => h t (by simp [ht])) u hu
theorem tabs_tags : ∀ (m : List S72) (Y : List Int), (tabs m Y).map (·.f0) = m.map (·.f0)
  | [], _ => rfl
  | t :: r, Y => by simp [tabs, tabs_tags r]
theorem rising_map {m : List S72} : rising m ↔ (m.map (·.f0)).Pairwise (fun a b => bef a b = true) := by unfold rising; rw [List.pairwise_map]
/-- A file with a byte of its tables turned is refused. -/
theorem unpackP_turned {m : List S72} {k : Nat} {c : Int} (hok : ∀ t ∈ m, okT t) (h1 : m.length ≤ 32) (hri : rising m) (hby : bytesT m) (hk : k < (bodL m).length) (hne : (bodL m)[k]? ≠ some c) (h0 : 0 ≤ c) (h2 : c ≤ 255) :
    unpackP (headL m.length ++ dirL m (12 + 16 * (m.length : Int)) ++ (bodL m).set k c) = ([], 2) := by
  rw [unpackP_lay hok h1 (by rw [List.length_set]) hri]
  unfold endP
  split
  · rename_i hp
    split
    · rename_i he
      exfalso
      have hri2 : rising (tabs m ((bodL m).set k c)) := by rw [rising_map, tabs_tags, ← rising_map]; exact hri
      unfold packP at he hp
      split at hp
      · rename_i hm
        rw [if_pos hm] at he
        split at hp
        · rename_i hl
          rw [if_pos hl, rising_sort hri2] at he
          unfold lay at he
          rw [tabs_len] at he
          obtain ⟨e1, e2⟩ := cancel_len he (by rw [List.length_append, List.length_append, dirL_len _ _ hok, dirL_len _ _ (tabs_ok m _ hok), tabs_len])
          obtain ⟨-, e3⟩ := cancel_len e1 rfl
          exact turn_no m k c _ hk hne h0 h2 hby ⟨e3.symm, e2.symm⟩
        · exact absurd hp (by simp)
      · exact absurd hp (by simp)
    · rfl
  · rfl
theorem xor_ne {x y : Int} (h0 : 0 ≤ x) (h1 : x ≤ 255) (h2 : 0 ≤ y) (h3 : y ≤ 255) (hy : y ≠ 0) : bits .xor .u8 x y ≠ x ∧ 0 ≤ bits .xor .u8 x y ∧ bits .xor .u8 x y ≤ 255 := by
  have hb : bits .xor .u8 x y = ((BitVec.ofInt 8 x ^^^ BitVec.ofInt 8 y).toNat : Int) := by
    show IntKind.u8.wrap ((BitVec.ofInt 8 x ^^^ BitVec.ofInt 8 y).toNat : Int) = _
    have := (BitVec.ofInt 8 x ^^^ BitVec.ofInt 8 y).isLt
    generalize (BitVec.ofInt 8 x ^^^ BitVec.ofInt 8 y).toNat = z at this ⊢
    simp only [IntKind.wrap, IntKind.bits, IntKind.signed]
    simp
    omega
  rw [hb]
  have hlt := (BitVec.ofInt 8 x ^^^ BitVec.ofInt 8 y).isLt
  refine ⟨fun e => ?_, by omega, by omega⟩
  have hx : (BitVec.ofInt 8 x).toNat = x.toNat := by rw [BitVec.toNat_ofInt]; omega
  have e2 : BitVec.ofInt 8 x ^^^ BitVec.ofInt 8 y = BitVec.ofInt 8 x := by
    apply BitVec.eq_of_toNat_eq
    rw [hx]; omega
  have e3 : BitVec.ofInt 8 y = 0#8 := by
    have : BitVec.ofInt 8 x ^^^ (BitVec.ofInt 8 x ^^^ BitVec.ofInt 8 y) = BitVec.ofInt 8 x ^^^ BitVec.ofInt 8 x := by rw [e2]
    rwa [← BitVec.xor_assoc, BitVec.xor_self, BitVec.zero_xor] at this
  have e4 : (BitVec.ofInt 8 y).toNat = 0 := by rw [e3]; rfl
  rw [BitVec.toNat_ofInt] at e4
  omega

/-! ### sizes -/
def tot : List S72 → Nat
  | [] => 0
  | t :: r => 20 + t.f1.length + tot r
theorem few_ev (l : List S72) (hl : l.length ≤ 1000000000000000) : ∃ b, Ev (fun k => foundrylaw05_few.f k l) b ∧ (b = true → tot l ≤ 20000) := by
  have h : ∀ d i : Nat, i + d = l.length → ∀ acc : Int, 0 ≤ acc → acc ≤ 60000 → ∃ b, Ev (fun k => foundrylaw05_few.l0 k l acc (i : Int)) b ∧ (b = true → acc + (tot (l.drop i) : Int) ≤ 20000) := by
    intro d
    induction d with
    | zero =>
      intro i hi acc h0 h1
      by_cases ha : acc ≤ 20000
      · exact ⟨_, Ev.step (fun k => by rw [foundrylaw05_few.l0, if_neg (by omega), if_pos ha]) (Ev.now _), fun _ => by rw [List.drop_of_length_le (by omega)]; show acc + ((0 : Nat) : Int) ≤ 20000; omega⟩
      · exact ⟨false, Ev.step (fun k => by rw [foundrylaw05_few.l0, if_neg (by omega), if_neg ha]) (Ev.now _), fun h => by cases h⟩
    | succ d ih =>
      intro i hi acc h0 h1
      have hlt : i < l.length := by omega
      by_cases ha : acc ≤ 20000
      · have e : rd_T72 l (i : Int) = l[i] := by simp [rd_T72, hlt]
        obtain ⟨mm, hmq⟩ : ∃ mm, mn (l[i].f1.length : Int) 30000 = mm := ⟨_, rfl⟩
        have hmn : mm ≤ 30000 ∧ 0 ≤ mm ∧ (mm = (l[i].f1.length : Int) ∨ mm = 30000) := by rw [← hmq]; unfold mn; omega
        have w2 : wrap64 (acc + (20 + mm)) = acc + (20 + mm) := by unfold wrap64; omega
        have w3 : wrap64 ((i : Int) + 1) = ((i + 1 : Nat) : Int) := by unfold wrap64; omega
        obtain ⟨b, hev, hb⟩ := ih (i + 1) (by omega) (acc + (20 + mm)) (by omega) (by omega)
        refine ⟨b, Ev.step (fun k => by rw [foundrylaw05_few.l0, if_pos (by omega), if_pos ha, if_pos (by omega), e, hmq, w2, w3]) hev, fun h => ?_⟩
        have h5 := hb h
        rw [List.drop_eq_getElem_cons hlt, tot]
        omega
      · exact ⟨false, Ev.step (fun k => by rw [foundrylaw05_few.l0, if_pos (by omega), if_neg ha]) (Ev.now _), fun h => by cases h⟩
  obtain ⟨b, h1, h2⟩ := h l.length 0 (by omega) 0 (by omega) (by omega)
  exact ⟨b, h1, fun hb => by have := h2 hb; rw [List.drop_zero] at this; omega⟩
theorem tot_perm {l m : List S72} (h : l.Perm m) : tot l = tot m := by
  induction h with
  | nil => rfl
  | cons x _ ih => simp only [tot, ih]
  | swap x y l => simp only [tot]; omega
  | trans _ _ h1 h2 => rw [h1, h2]
theorem bodL_tot : ∀ m : List S72, (bodL m).length ≤ tot m
  | [] => Nat.le_refl _
  | t :: r => by
    have := bodL_tot r
    have hp : padN t.f1.length 4 < 4 := by unfold padN; omega
    rw [bodL_cons_len, tot]; omega
theorem lay_tot {m : List S72} (h : ∀ t ∈ m, okT t) : (lay m).length = 12 + 16 * m.length + (bodL m).length := by
  simp only [lay, List.length_append, headL_len, dirL_len m _ h]
end Go.Proofs.Ytmppdgjnibamlaa.Pag
