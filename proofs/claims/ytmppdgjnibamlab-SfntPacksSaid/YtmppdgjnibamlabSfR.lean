/- foundryref05.risen, told plainly: the tables by their tags. -/
import Derived.Test.YtmppdgjnibamlabPSfx2
import Derived.Test.YtmppdgjnibamlabSfV
import Derived.Test.YtmppdgjnibamlabPSfx3
namespace Go.Proofs.Ytmppdgjnibamlab.Pag
open Go.RowKit Go.Proofs.Ytmppdgjnibamlab.PSf Go.Proofs.YtmppdgjnibamlabW.PrintWords
set_option linter.unusedVariables false
set_option linter.unusedSimpArgs false

def cv (x : S123) : S115 := ⟨x.f0, x.f1⟩
def vc (x : S115) : S123 := ⟨x.f0, x.f1⟩
theorem vc_cv (l : List S123) : (l.map cv).map vc = l := by
  rw [List.map_map]
  conv => rhs; rw [← List.map_id l]
  exact List.map_congr_left (fun _ _ => rfl)
theorem cv_vc (l : List S115) : (l.map vc).map cv = l := by
  rw [List.map_map]
  conv => rhs; rw [← List.map_id l]
  exact List.map_congr_left (fun _ _ => rfl)
def srt (l : List S123) : List S123 := (sortT (l.map cv)).map vc
theorem srt_perm (l : List S123) : (srt l).Perm l := by
  have := (sortT_perm (l.map cv)).map vc
  rwa [vc_cv] at this
theorem srt_len (l : List S123) : (srt l).length = l.length := (srt_perm l).length_eq
theorem srt_rising {l : List S123} (h : apart (l.map cv)) : (srt l).Pairwise (fun a b => bef a.f0 b.f0 = true) := by
  unfold srt
  rw [List.pairwise_map]
  exact sort_rising h

/-- May table i be the next? -/
def cand (l out : List S123) (i : Nat) : Bool := decide (out.length = 0) || bef (rd_T123 out ((out.length : Int) - 1)).f0 (rd_T123 l (i : Int)).f0
def nextB (l out : List S123) (b : Int) (i : Nat) : Int := if cand l out i = true ∧ (b < 0 ∨ bef (rd_T123 l (i : Int)).f0 (rd_T123 l b).f0 = true) then (i : Int) else b
theorem l1_step (l out : List S123) (hl : l.length ≤ 1000) (ho : out.length ≤ 1000) (b : Int) (hb : b < (l.length : Int)) (hb1 : -1 ≤ b) (i : Nat) (hi : i < l.length) (k : Nat) :
    foundryref05_risen.l1 (k + 1) l out b (i : Int) = foundryref05_risen.l1 k l out (nextB l out b i) ((i + 1 : Nat) : Int) := by
  have w1 : wrap64 ((i : Int) + 1) = ((i + 1 : Nat) : Int) := by unfold wrap64; omega
  rw [foundryref05_risen.l1, if_pos (by omega), w1]
  unfold nextB cand
  by_cases h0 : out.length = 0
  · rw [if_pos (by omega), decide_eq_true h0]
    by_cases hb0 : b < 0
    · rw [if_pos hb0, if_pos ⟨rfl, .inl hb0⟩]
    · rw [if_neg hb0, if_pos (by omega), if_pos (by omega), if_pos hb]
      by_cases hq : Op.bytesLess (rd_T123 l (i : Int)).f0.toList (rd_T123 l b).f0.toList = true
      · rw [if_pos hq, if_pos ⟨rfl, .inr hq⟩]
      · rw [if_neg hq, if_neg (fun h => by rcases h.2 with h | h; exact hb0 h; exact hq h)]
  · have w2 : wrap64 ((out.length : Int) - 1) = (out.length : Int) - 1 := by unfold wrap64; omega
    rw [if_neg (by omega), if_pos (by omega), w2, if_pos (by omega), if_pos (by omega), decide_eq_false h0, Bool.false_or]
    by_cases hc : Op.bytesLess (rd_T123 out ((out.length : Int) - 1)).f0.toList (rd_T123 l (i : Int)).f0.toList = true
    · rw [if_pos hc]
      by_cases hb0 : b < 0
      · rw [if_pos hb0, if_pos ⟨hc, .inl hb0⟩]
      · rw [if_neg hb0, if_pos (by omega), if_pos hb]
        by_cases hq : Op.bytesLess (rd_T123 l (i : Int)).f0.toList (rd_T123 l b).f0.toList = true
        · rw [if_pos hq, if_pos ⟨hc, .inr hq⟩]
        · rw [if_neg hq, if_neg (fun h => by rcases h.2 with h | h; exact hb0 h; exact hq h)]
    · rw [if_neg hc, if_neg (fun h => hc h.1)]
/-- What is known of the best behind i tables. -/
def Best (l out : List S123) (i : Nat) (b : Int) : Prop :=
  (b = -1 ∧ ∀ j, j < i → cand l out j = false) ∨ ∃ p : Nat, b = (p : Int) ∧ p < i ∧ cand l out p = true ∧ ∀ j, j < i → cand l out j = true → bef (rd_T123 l (j : Int)).f0 (rd_T123 l (p : Int)).f0 = false
theorem best_next {l out : List S123} {i : Nat} {b : Int} (h : Best l out i b) : Best l out (i + 1) (nextB l out b i) := by
  unfold nextB
  rcases h with ⟨rfl, h1⟩ | ⟨p, rfl, h1, h2, h3⟩
  · by_cases hc : cand l out i = true
    · rw [if_pos ⟨hc, .inl (by omega)⟩]
      refine .inr ⟨i, rfl, by omega, hc, fun j hj hcj => ?_⟩
      rcases Nat.lt_or_ge j i with hlt | hge
      · rw [h1 j hlt] at hcj; cases hcj
      · rw [show j = i by omega, bef_irrefl]
    · rw [if_neg (fun h => hc h.1)]
      refine .inl ⟨rfl, fun j hj => ?_⟩
      rcases Nat.lt_or_ge j i with hlt | hge
      · exact h1 j hlt
      · rw [show j = i by omega]; simpa using hc
  · by_cases hc : cand l out i = true ∧ bef (rd_T123 l (i : Int)).f0 (rd_T123 l (p : Int)).f0 = true
    · rw [if_pos ⟨hc.1, .inr hc.2⟩]
      refine .inr ⟨i, rfl, by omega, hc.1, fun j hj hcj => ?_⟩
      rcases Nat.lt_or_ge j i with hlt | hge
      · cases hq : bef (rd_T123 l (j : Int)).f0 (rd_T123 l (i : Int)).f0 with
        | false => rfl
        | true => exact absurd (bef_trans hq hc.2) (by rw [h3 j hlt hcj]; simp)
      · rw [show j = i by omega, bef_irrefl]
    · rw [if_neg (fun h => hc ⟨h.1, by rcases h.2 with h | h; exact absurd h (by omega); exact h⟩)]
      refine .inr ⟨p, rfl, by omega, h2, fun j hj hcj => ?_⟩
      rcases Nat.lt_or_ge j i with hlt | hge
      · exact h3 j hlt hcj
      · have e : j = i := by omega
        rw [e] at hcj ⊢
        cases hq : bef (rd_T123 l (i : Int)).f0 (rd_T123 l (p : Int)).f0 with
        | false => rfl
        | true => exact absurd ⟨hcj, hq⟩ hc
theorem rdR {l : List S123} {i : Nat} (h : i < l.length) : rd_T123 l (i : Int) = l[i] := by simp [rd_T123, h]
theorem best_end {l : List S123} (ha : apart (l.map cv)) {q : Nat} (hq : q < l.length) {b : Int} (h : Best l ((srt l).take q) l.length b) :
    ∃ p : Nat, b = (p : Int) ∧ ∃ hp : p < l.length, l[p] = (srt l)[q]'(by rw [srt_len]; exact hq) := by
  have hri := srt_rising ha
  have hsl := srt_len l
  have hol : ((srt l).take q).length = q := by rw [List.length_take]; omega
  have hcand : ∀ (j : Nat) (hj : j < l.length) (r : Nat) (hr : r < (srt l).length), l[j] = (srt l)[r] → (cand l ((srt l).take q) j = true ↔ q ≤ r) := by
    intro j hj r hr e
    unfold cand
    rw [hol, rdR hj, e]
    by_cases h0 : q = 0
    · simp [h0]
    · have e2 : rd_T123 ((srt l).take q) ((q : Int) - 1) = (srt l)[q - 1]'(by omega) := by
        rw [show ((q : Int) - 1) = ((q - 1 : Nat) : Int) by omega, rdR (by rw [hol]; omega), List.getElem_take]
      rw [e2, decide_eq_false h0, Bool.false_or]
      constructor
      · intro hb
        rcases Nat.lt_or_ge r q with hlt | hge
        · exfalso
          rcases Nat.lt_or_ge r (q - 1) with h5 | h5
          · have := (List.pairwise_iff_getElem.1 hri) r (q - 1) hr (by omega) h5
            exact absurd (bef_trans hb this) (by rw [bef_irrefl]; simp)
          · have h6 : r = q - 1 := by omega
            subst h6
            rw [bef_irrefl] at hb; cases hb
        · exact hge
      · intro hge
        exact (List.pairwise_iff_getElem.1 hri) (q - 1) r (by omega) hr (by omega)
  have hqs : q < (srt l).length := by omega
  obtain ⟨jq, hjq, ejq⟩ := List.mem_iff_getElem.1 ((srt_perm l).mem_iff.1 (List.getElem_mem hqs))
  have hcq := (hcand jq hjq q hqs ejq).2 (Nat.le_refl _)
  rcases h with ⟨-, h1⟩ | ⟨p, rfl, h1, h2, h3⟩
  · rw [h1 jq hjq] at hcq; cases hcq
  · refine ⟨p, rfl, h1, ?_⟩
    obtain ⟨r, hr, er⟩ := List.mem_iff_getElem.1 ((srt_perm l).mem_iff.2 (List.getElem_mem h1))
    have hqr := (hcand p h1 r hr er.symm).1 h2
    have h4 := h3 jq hjq hcq
    rw [rdR hjq, rdR h1, ejq, ← er] at h4
    rcases Nat.lt_or_ge q r with hlt | hge
    · have := (List.pairwise_iff_getElem.1 hri) q r hqs hr hlt
      rw [this] at h4; cases h4
    · have e5 : r = q := by omega
      subst e5
      exact er.symm
theorem inner_ev {l out : List S123} (hl : l.length ≤ 1000) (ho : out.length ≤ 1000) {R : List S123}
    (hend : ∀ b, Best l out l.length b → Ev (fun k => foundryref05_risen.l1 k l out b (l.length : Int)) R) : ∀ d i : Nat, i + d = l.length → ∀ b, Best l out i b → Ev (fun k => foundryref05_risen.l1 k l out b (i : Int)) R := by
  intro d
  induction d with
  | zero =>
    intro i hi b hb
    obtain rfl : i = l.length := by omega
    exact hend b hb
  | succ d ih =>
    intro i hi b hb
    have hbl : b < (l.length : Int) ∧ -1 ≤ b := by
      rcases hb with ⟨rfl, _⟩ | ⟨p, rfl, h1, _⟩
      · omega
      · omega
    exact Ev.step (fun k => l1_step l out hl ho b hbl.1 hbl.2 i (by omega) k) (ih (i + 1) (by omega) _ (best_next hb))
theorem risen_ev {l : List S123} (ha : apart (l.map cv)) (hl : l.length ≤ 1000) : Ev (fun k => foundryref05_risen.f k l) (srt l) := by
  have hsl := srt_len l
  have h : ∀ d q : Nat, q + d = l.length → Ev (fun k => foundryref05_risen.l0 k l ((srt l).take q)) (srt l) := by
    intro d
    induction d with
    | zero =>
      intro q hq
      rw [List.take_of_length_le (by omega)]
      exact Ev.step (fun k => by rw [foundryref05_risen.l0, if_neg (by omega)]) (Ev.now _)
    | succ d ih =>
      intro q hq
      have hol : ((srt l).take q).length = q := by rw [List.length_take]; omega
      refine Ev.step (fun k => by rw [foundryref05_risen.l0, if_pos (by rw [hol]; omega)]) ?_
      refine inner_ev hl (by omega) (fun b hb => ?_) l.length 0 (by omega) (-1) (.inl ⟨rfl, fun j hj => by omega⟩)
      obtain ⟨p, rfl, hp, e⟩ := best_end ha (by omega) hb
      have hn := ih (q + 1) (by omega)
      rw [List.take_succ_eq_append_getElem (by omega), ← e] at hn
      refine Ev.step (fun k => by rw [foundryref05_risen.l1, if_neg (by omega), if_pos (by omega), if_pos (by omega), if_pos (by rw [hol]; omega), rdR hp]) hn
  exact h l.length 0 (by omega)
end Go.Proofs.Ytmppdgjnibamlab.Pag

/-! The reference's numbers, fillings and sums, told plainly. -/
namespace Go.Proofs.Ytmppdgjnibamlab.Pag
open Go.RowKit Go.Proofs.Ytmppdgjnibamlab.PSf Go.Proofs.YtmppdgjnibamlabW.PrintWords
set_option linter.unusedVariables false
set_option linter.unusedSimpArgs false

theorem filled_ev (l : List Int) (hl : l.length ≤ 100000000) : Ev (fun k => foundryref05_filled.f k l) (l ++ pads l.length) := by
  unfold foundryref05_filled.f
  simp only [List.length_nil, Nat.zero_add, List.nil_append, if_pos (show l.length < 140737488355328 by omega)]
  have h : ∀ d : Nat, ∀ x : List Int, x.length + d ≤ 100000010 → padN x.length 4 = d → Ev (fun k => foundryref05_filled.l0 k x) (x ++ List.replicate d 0) := by
    intro d
    induction d with
    | zero =>
      intro x hx hd
      have h4 : x.length % 4 = 0 := by unfold padN at hd; omega
      rw [List.replicate_zero, List.append_nil]
      exact Ev.step (fun k => by rw [foundryref05_filled.l0, if_pos (by omega)]) (Ev.now _)
    | succ d ih =>
      intro x hx hd
      have h4 : x.length % 4 ≠ 0 := by unfold padN at hd; omega
      have hn := ih (x ++ [0]) (by rw [List.length_append]; show x.length + 1 + d ≤ 100000010; omega) (by rw [List.length_append]; show padN (x.length + 1) 4 = d; unfold padN at hd ⊢; omega)
      rw [List.append_assoc] at hn
      exact Ev.step (fun k => by rw [foundryref05_filled.l0, if_neg (by omega), if_pos (by omega)]) hn
  exact h (padN l.length 4) l (by have hp : padN l.length 4 < 4 := (by unfold padN; omega); omega) rfl
theorem rbig2 (x : Int) (h0 : 0 ≤ x) (h1 : x ≤ 65535) : Ev (fun k => foundryref04_Big.f k x 2) (be x 2) := by
  unfold foundryref04_Big.f
  simp only [if_pos (show (0 : Int) ≤ 2 by omega), if_pos (show (2 : Int).toNat ≤ 281474976710656 by decide)]
  rw [show (2 : Int).toNat = 2 from rfl, (show wrap64 (2 - 1) = 1 by unfold wrap64; omega), be_two]
  have e : (x.tmod 256) % 256 = x % 256 := by rw [Int.tmod_eq_emod_of_nonneg h0]; omega
  have e2 := Aside0.mk (show wrap64 (x.tdiv 256) = x / 256 by rw [Int.tdiv_eq_ediv_of_nonneg h0]; unfold wrap64; omega)
  have e3 : ((x / 256).tmod 256) % 256 = x / 256 % 256 := by rw [Int.tmod_eq_emod_of_nonneg (by omega)]; omega
  refine Ev.step (fun k => by rw [foundryref04_Big.l0, if_pos (by omega), if_pos (by omega), if_pos (by simp), e, e2.out, (show wrap64 (1 - 1) = 0 by unfold wrap64; omega)]) (Ev.step (fun k => by rw [foundryref04_Big.l0, if_pos (by omega), if_pos (by omega), if_pos (by simp), e3, (show wrap64 (0 - 1) = -1 by unfold wrap64; omega)]) (Ev.step (fun k => by rw [foundryref04_Big.l0, if_neg (by omega)]) ?_))
  exact Ev.now _
theorem div_step (x : Int) (h0 : 0 ≤ x) (h1 : x < 4294967296) : Aside0 (wrap64 (x.tdiv 256) = x / 256) ∧ (x.tmod 256) % 256 = x % 256 := by
  refine ⟨⟨?_⟩, ?_⟩
  · rw [Int.tdiv_eq_ediv_of_nonneg h0]; unfold wrap64; omega
  · rw [Int.tmod_eq_emod_of_nonneg h0]; omega
theorem rbig4 (x : Int) (h0 : 0 ≤ x) (h1 : x < 4294967296) : Ev (fun k => foundryref04_Big.f k x 4) (be x 4) := by
  unfold foundryref04_Big.f
  simp only [if_pos (show (0 : Int) ≤ 4 by omega), if_pos (show (4 : Int).toNat ≤ 281474976710656 by decide)]
  rw [show (4 : Int).toNat = 4 from rfl, (show wrap64 (4 - 1) = 3 by unfold wrap64; omega), be_four]
  obtain ⟨a1, b1⟩ := div_step x h0 h1
  obtain ⟨a2, b2⟩ := div_step (x / 256) (by omega) (by omega)
  obtain ⟨a3, b3⟩ := div_step (x / 256 / 256) (by omega) (by omega)
  obtain ⟨a4, b4⟩ := div_step (x / 256 / 256 / 256) (by omega) (by omega)
  have e1 : x / 16777216 % 256 = x / 256 / 256 / 256 % 256 := by omega
  have e2 : x / 65536 % 256 = x / 256 / 256 % 256 := by omega
  rw [e1, e2]
  clear e1 e2
  refine Ev.step (fun k => by rw [foundryref04_Big.l0, if_pos (by omega), if_pos (by omega), if_pos (by simp), b1, a1.out, (show wrap64 (3 - 1) = 2 by unfold wrap64; omega)]) ?_
  refine Ev.step (fun k => by rw [foundryref04_Big.l0, if_pos (by omega), if_pos (by omega), if_pos (by simp), b2, a2.out, (show wrap64 (2 - 1) = 1 by unfold wrap64; omega)]) ?_
  refine Ev.step (fun k => by rw [foundryref04_Big.l0, if_pos (by omega), if_pos (by omega), if_pos (by simp), b3, a3.out, (show wrap64 (1 - 1) = 0 by unfold wrap64; omega)]) ?_
  refine Ev.step (fun k => by rw [foundryref04_Big.l0, if_pos (by omega), if_pos (by omega), if_pos (by simp), b4, a4.out, (show wrap64 (0 - 1) = -1 by unfold wrap64; omega)]) ?_
  exact Ev.step (fun k => by rw [foundryref04_Big.l0, if_neg (by omega)]; rfl) (Ev.now _)
theorem num_step {acc c : Int} (h0 : 0 ≤ acc) (h1 : acc < 16777216) (h2 : 0 ≤ c) (h3 : c ≤ 255) : wrap64 (wrap64 (256 * acc) + wrap64 c) = 256 * acc + c := by
  rw [show wrap64 (256 * acc) = 256 * acc by unfold wrap64; omega, show wrap64 c = c by unfold wrap64; omega]
  unfold wrap64; omega
theorem pow_small {k : Nat} (h : k ≤ 3) : (256 : Int) ^ k ≤ 16777216 := by
  rcases (show k = 0 ∨ k = 1 ∨ k = 2 ∨ k = 3 by omega) with rfl | rfl | rfl | rfl <;> decide
theorem number_loop {b : List Int} (hb : b.all byteB = true) (hl : b.length ≤ 1000000000) (a n : Nat) (hn : n ≤ 4) (hin : a + n ≤ b.length) : ∀ d i : Nat, i + d = n →
    Ev (fun k => foundryref04_number.l0 k b (a : Int) (n : Int) (numBE ((b.drop a).take i)) (i : Int)) (numBE ((b.drop a).take n), true) := by
  intro d
  induction d with
  | zero =>
    intro i hi
    obtain rfl : i = n := by omega
    exact Ev.step (fun k => by rw [foundryref04_number.l0, if_neg (by omega)]) (Ev.now _)
  | succ d ih =>
    intro i hi
    have hr := ih (i + 1) (by omega)
    have hlt : i < (b.drop a).length := by rw [List.length_drop]; omega
    have hlt2 : a + i < b.length := by omega
    have hc : (b.drop a)[i] = b[a + i] := by rw [List.getElem_drop]
    rw [List.take_succ_eq_append_getElem hlt, numBE_snoc, hc] at hr
    have hrg := numBE_range ((b.drop a).take i) (by rw [List.all_eq_true] at hb ⊢; exact fun x hx => hb x (List.mem_of_mem_drop (List.mem_of_mem_take hx)))
    have hpw := pow_small (k := ((b.drop a).take i).length) (by rw [List.length_take]; omega)
    have hby : 0 ≤ b[a + i] ∧ b[a + i] ≤ 255 := by
      rw [List.all_eq_true] at hb
      simpa [byteB] using hb _ (List.getElem_mem hlt2)
    have e1 : wrap64 ((a : Int) + (i : Int)) = ((a + i : Nat) : Int) := by unfold wrap64; omega
    have e2 : wrap64 ((i : Int) + 1) = ((i + 1 : Nat) : Int) := by unfold wrap64; omega
    have E1 := Aside0.mk e1
    have E2 := Aside0.mk e2
    clear e1 e2
    have e3 : rd b ((a + i : Nat) : Int) = b[a + i] := by
      unfold rd
      rw [Int.toNat_natCast]
      simp [hlt2]
    have E4 := Aside0.mk (num_step hrg.1 (Int.lt_of_lt_of_le hrg.2 hpw) hby.1 hby.2)
    clear hrg hpw hby
    exact Ev.step (fun k => by rw [foundryref04_number.l0, if_pos (by omega), E1.out, if_pos (by omega), if_pos (by omega), e3, E4.out, E2.out]) hr
theorem number_ev {b : List Int} (hb : b.all byteB = true) (hl : b.length ≤ 1000000000) (a : Int) (n : Nat) (hn : n ≤ 4) : Ev (fun k => foundryref04_number.f k b a (n : Int)) (fieldP b a (n : Int)) := by
  unfold foundryref04_number.f fieldP
  have no : Ev (fun k => foundryref04_number.j0 k b a (n : Int) true) (0, false) := Ev.step (fun k => by rw [foundryref04_number.j0, if_pos rfl]) (Ev.now _)
  by_cases h0 : a < 0
  · simp only [if_pos h0, if_pos (show a < 0 ∨ a > (b.length : Int) - (n : Int) from .inl h0)]; exact no
  · simp only [if_neg h0]
    by_cases h1 : (b.length : Int) < (n : Int)
    · simp only [if_pos h1, if_pos (show a < 0 ∨ a > (b.length : Int) - (n : Int) from .inr (by omega))]; exact no
    · simp only [if_neg h1]
      have E := Aside0.mk (show wrap64 ((b.length : Int) - (n : Int)) = (b.length : Int) - (n : Int) by unfold wrap64; omega)
      simp only [E.out]
      by_cases h2 : a > (b.length : Int) - (n : Int)
      · rw [decide_eq_true h2, if_pos (.inr h2)]; exact no
      · rw [decide_eq_false h2, if_neg (by omega)]
        obtain ⟨m, rfl⟩ : ∃ m : Nat, a = (m : Int) := ⟨a.toNat, by omega⟩
        rw [Int.toNat_natCast, Int.toNat_natCast]
        exact Ev.step (fun k => by rw [foundryref04_number.j0, if_neg (by simp)]; rfl) (number_loop hb hl m n hn (by omega) n 0 (by omega))
theorem ru32_ev {b : List Int} (hb : b.all byteB = true) (hl : b.length ≤ 1000000000) (a : Int) : Ev (fun k => foundryref04_U32.f k b a) (fieldP b a 4) := by
  unfold foundryref04_U32.f
  exact Ev.bind (number_ev hb hl a 4 (by omega)) (Ev.now _)
theorem shl_at {o : Int} (h0 : 0 ≤ o) (h1 : o ≤ 255) (i : Nat) (p : Int) (hp : (i % 4 = 0 ∧ p = 16777216) ∨ (i % 4 = 1 ∧ p = 65536) ∨ (i % 4 = 2 ∧ p = 256) ∨ (i % 4 = 3 ∧ p = 1)) : shl .u32 (o % 4294967296) (24 - 8 * ((i % 4 : Nat) : Int)) = o * p := by
  have h : o % 4294967296 = o := by omega
  have hw : ∀ x : Int, 0 ≤ x → x < 4294967296 → IntKind.u32.wrap x = x := fun x h0 h1 => by simp [IntKind.wrap, IntKind.bits, IntKind.signed]; omega
  rcases hp with ⟨e, rfl⟩ | ⟨e, rfl⟩ | ⟨e, rfl⟩ | ⟨e, rfl⟩ <;> rw [e, h] <;> unfold shl
  · rw [show min (24 - 8 * ((0 : Nat) : Int)).toNat IntKind.u32.bits = 24 from rfl, show (2 : Int) ^ 24 = 16777216 from rfl]; exact hw _ (by omega) (by omega)
  · rw [show min (24 - 8 * ((1 : Nat) : Int)).toNat IntKind.u32.bits = 16 from rfl, show (2 : Int) ^ 16 = 65536 from rfl]; exact hw _ (by omega) (by omega)
  · rw [show min (24 - 8 * ((2 : Nat) : Int)).toNat IntKind.u32.bits = 8 from rfl, show (2 : Int) ^ 8 = 256 from rfl]; exact hw _ (by omega) (by omega)
  · rw [show min (24 - 8 * ((3 : Nat) : Int)).toNat IntKind.u32.bits = 0 from rfl, show (2 : Int) ^ 0 = 1 from rfl]; exact hw _ (by omega) (by omega)
theorem sumG_chunk {a b c d : Int} {r : List Int} {i : Nat} {acc : Int} (hi : i % 4 = 0) (h : [a, b, c, d].all byteB = true) (h0 : 0 ≤ acc) (h1 : acc < 4294967296) :
    sumG (a :: b :: c :: d :: r) i acc = sumG r (i + 4) ((acc + numBE [a, b, c, d]) % 4294967296) := by
  simp only [List.all_cons, List.all_nil, Bool.and_true, Bool.and_eq_true, byteB, decide_eq_true_eq] at h
  obtain ⟨ha, hb, hc, hd⟩ := h
  rw [sumG, sumG, sumG, sumG, shl_at ha.1 ha.2 i _ (.inl ⟨hi, rfl⟩), shl_at hb.1 hb.2 (i + 1) _ (.inr (.inl ⟨by omega, rfl⟩)), shl_at hc.1 hc.2 (i + 1 + 1) _ (.inr (.inr (.inl ⟨by omega, rfl⟩))), shl_at hd.1 hd.2 (i + 1 + 1 + 1) _ (.inr (.inr (.inr ⟨by omega, rfl⟩)))]
  congr 1
  simp only [numBE, List.foldl_cons, List.foldl_nil]
  omega
theorem rsum_loop {x : List Int} (hx : x.all byteB = true) (hl : x.length ≤ 100000010) : ∀ d j : Nat, 4 * (j + d) = x.length → ∀ acc : Int, 0 ≤ acc → acc < 4294967296 →
    Ev (fun k => foundryref05_Sum.l0 k x acc ((4 * j : Nat) : Int)) (sumG (x.drop (4 * j)) (4 * j) acc) := by
  intro d
  induction d with
  | zero =>
    intro j hj acc h0 h1
    rw [List.drop_of_length_le (by omega)]
    exact Ev.step (fun k => by rw [foundryref05_Sum.l0, if_neg (by omega)]) (by rw [show acc % 4294967296 = acc by omega]; exact Ev.now _)
  | succ d ih =>
    intro j hj acc h0 h1
    have E1 := Aside0.mk (show wrap64 (((4 * j : Nat) : Int) + 4) = ((4 * (j + 1) : Nat) : Int) by unfold wrap64; omega)
    have hf : fieldP x ((4 * j : Nat) : Int) 4 = (numBE ((x.drop (4 * j)).take 4), true) := by
      unfold fieldP
      rw [if_neg (by omega), Int.toNat_natCast]; rfl
    have hlen : 4 ≤ (x.drop (4 * j)).length := by rw [List.length_drop]; omega
    have hall : (x.drop (4 * j)).all byteB = true := by rw [List.all_eq_true] at hx ⊢; exact fun y hy => hx y (List.mem_of_mem_drop hy)
    have hnext := ih (j + 1) (by omega)
    have hdd : x.drop (4 * (j + 1)) = (x.drop (4 * j)).drop 4 := by rw [List.drop_drop]; rfl
    rw [hdd] at hnext
    generalize x.drop (4 * j) = y at hf hlen hall hnext ⊢
    match y, hlen, hall with
    | a :: b :: c :: e :: r, _, hall =>
      have h4 : [a, b, c, e].all byteB = true := by
        simp only [List.all_cons, Bool.and_eq_true, List.all_nil, Bool.and_true] at hall ⊢
        exact ⟨hall.1, hall.2.1, hall.2.2.1, hall.2.2.2.1⟩
      have hr4 := numBE_range [a, b, c, e] h4
      have hp4 : (256 : Int) ^ [a, b, c, e].length = 4294967296 := show (256 : Int) ^ 4 = 4294967296 by decide
      rw [hp4] at hr4
      have hf' : fieldP x ((4 * j : Nat) : Int) 4 = (numBE [a, b, c, e], true) := hf
      have E2 := Aside0.mk (show Int.tmod (wrap64 (acc + numBE [a, b, c, e])) 4294967296 = (acc + numBE [a, b, c, e]) % 4294967296 by
        generalize numBE [a, b, c, e] = z at hr4
        rw [show wrap64 (acc + z) = acc + z by unfold wrap64; omega, Int.tmod_eq_emod_of_nonneg (by omega)])
      rw [sumG_chunk (by omega) h4 h0 h1]
      refine Ev.step (fun k => by rw [foundryref05_Sum.l0, if_pos (by omega)]) ?_
      have hu := ru32_ev hx (by omega) ((4 * j : Nat) : Int)
      rw [hf'] at hu
      refine Ev.bind hu ?_
      refine Ev.congr (fun k => by rw [E1.out, E2.out]) ?_
      exact hnext _ (by omega) (by omega)
theorem sumG_zero (n : Nat) : ∀ (i : Nat) (a : Int), 0 ≤ a → a < 4294967296 → sumG (List.replicate n 0) i a = a := by
  induction n with
  | zero => intro i a _ _; rfl
  | succ n ih =>
    intro i a h0 h1
    rw [List.replicate_succ, sumG, show (0 : Int) % 4294967296 = 0 by rfl, show ∀ s : Int, shl .u32 0 s = 0 from fun s => by unfold shl; rw [Int.zero_mul]; rfl, ih (i + 1) _ (by omega) (by omega)]
    omega
theorem sumB_pads (x : List Int) (n : Nat) : sumB (x ++ pads n) = sumB x := by
  unfold sumB pads
  rw [sumG_app]
  exact sumG_zero _ _ _ (sumB_range x).1 (sumB_range x).2
theorem rsum_ev {l : List Int} (hb : l.all byteB = true) (hl : l.length ≤ 100000000) : Ev (fun k => foundryref05_Sum.f k l) (sumB l) := by
  unfold foundryref05_Sum.f
  refine Ev.bind (filled_ev l hl) ?_
  have hp : padN l.length 4 < 4 ∧ (l.length + padN l.length 4) % 4 = 0 := by unfold padN; omega
  have hlen : (l ++ pads l.length).length = l.length + padN l.length 4 := by rw [List.length_append]; simp [pads]
  have h := rsum_loop (x := l ++ pads l.length) (all_app hb (pads_all _)) (by rw [hlen]; omega) ((l.length + padN l.length 4) / 4) 0 (by rw [hlen]; omega) 0 (by omega) (by omega)
  rw [← sumB_pads l l.length]
  exact h
end Go.Proofs.Ytmppdgjnibamlab.Pag

/-! foundryref05.file: the contract, in the print's form. No condition but its own premises. -/
namespace Go.Proofs.Ytmppdgjnibamlab.Pag
open Go.RowKit Go.Proofs.Ytmppdgjnibamlab.PSf Go.Proofs.YtmppdgjnibamlabW.PrintWords
set_option linter.unusedVariables false
set_option linter.unusedSimpArgs false

theorem big2_calls (x : Int) (h0 : 0 ≤ x) (h1 : x ≤ 65535) (W : World) : Calls Try.prog 55 #[.int .i64 x, .int .i64 2] W fun e w' => ∃ A c, e = .returned (.slice A 2 c) ∧ ReadsInt w' .u8 A 2 (be x 2) ∧ Below W.heap.size W w' := by
  obtain ⟨k, hk⟩ := (rbig2 x h0 h1).rounds
  refine (foundryref04_Big.calls k x 2 _ W hk).mono ?_
  rintro e w' ⟨v, rfl, hR, hB⟩
  obtain ⟨A, c, rfl, hle, hC⟩ := Kd.R_reads hR
  rw [be_len] at hC
  exact ⟨A, c, by rw [be_len], C_reads hC, hB⟩
theorem big4_calls (x : Int) (h0 : 0 ≤ x) (h1 : x < 4294967296) (W : World) : Calls Try.prog 55 #[.int .i64 x, .int .i64 4] W fun e w' => ∃ A c, e = .returned (.slice A 4 c) ∧ ReadsInt w' .u8 A 4 (be x 4) ∧ Below W.heap.size W w' := by
  obtain ⟨k, hk⟩ := (rbig4 x h0 h1).rounds
  refine (foundryref04_Big.calls k x 4 _ W hk).mono ?_
  rintro e w' ⟨v, rfl, hR, hB⟩
  obtain ⟨A, c, rfl, hle, hC⟩ := Kd.R_reads hR
  rw [be_len] at hC
  exact ⟨A, c, by rw [be_len], C_reads hC, hB⟩
/-- The bytes so far, a row of the call's own. -/
def Bx (w1 wr : World) (v : Value) (X : List Int) : Prop := wr.ownsRow w1.heap.size 5 1 v X.length (nums .u8 X) ∧ Below w1.heap.size w1 wr
theorem Bx.move {w1 wr w2 : World} {v : Value} {X : List Int} (h : Bx w1 wr v X) (hb : Below wr.heap.size wr w2) : Bx w1 w2 v X := ⟨pw_own_below h.1 hb, below_then h.2 h.2.size hb⟩
theorem Bx.nil (w1 : World) : Bx w1 w1 (.slice none 0 0) [] := ⟨own_nil _ _ _ _, Below.refl _ _⟩
section
variable {ops : Array Oper} {rest : List Oper} {o : Oper} {a : Act} {Q : Exit → Act → World → Prop} {w1 w : World} {v : Value} {X : List Int}
set_option maxRecDepth 100000 in
/-- append(b, s...), s a string. -/
theorem bx_str (hgd : o.guard = none) (s x : Operand) (ho : o.op = .call { callee := .builtin .append, args := #[s, x], argTypes := #[26, 9] })
    (hX : Bx w1 w v X) (hs : a.eval s = v) (y : ByteArray) (hx : a.eval x = .string y) (hlen : X.length + y.size ≤ 140737488355328)
    (h : ∀ v' w2, Bx w1 w2 v' (X ++ bytesOf y) → wpList Try.prog ops Q rest (a.put o.dst v') w2) : wpList Try.prog ops Q (o :: rest) a w := by
  obtain ⟨i0, hi, hz0, hz1, hz2⟩ := info_parts infoB
  have hbase : w1.heap.size ≤ w.heap.size := hX.2.size
  obtain ⟨v', w2, hr, hown, hgrow, hat⟩ := str_at (P := Try.prog) w w1.heap.size 26 9 o.type 5 i0 Try.underlying26 Try.underlying9 hi hz0 hz1 hz2 v X.length (nums .u8 X) hX.1 y (by simp only [maxLen]; omega) hlen hbase
  have hl2 : (X ++ bytesOf y).length = X.length + y.size := by rw [List.length_append, bytesOf_length]
  have hcc2 : nums .u8 (X ++ bytesOf y) = nums .u8 X ++ Lib.strCells y := by
    rw [nums_append]
    congr 1
    simp [nums, bytesOf, Lib.strCells]
  rw [← hl2, ← hcc2] at hown
  refine wpList_plain hgd fun K hK => ?_
  unfold Oper.wp execOp
  simp only [ho, resolve, invoke, builtin, Sem.run_bind, Sem.run_pure, Result.andThen_ok, List.map_toArray, List.map_cons, List.map_nil, hs, hx, hr]
  exact hK _ _ (h v' w2 ⟨hown, hX.2.grown hgrow hbase (own_base hX.1)⟩)
/-- append(b, x...), x bytes. -/
theorem bx_row (hgd : o.guard = none) (s x : Operand) (ho : o.op = .call { callee := .builtin .append, args := #[s, x], argTypes := #[26, 26] })
    (hX : Bx w1 w v X) (hs : a.eval s = v) (A : Option Addr) (m c : Nat) (ys : List Int) (hx : a.eval x = .slice A m c) (hR : ReadsInt w .u8 A m ys) (hlen : X.length + m ≤ 140737488355328)
    (h : ∀ v' w2, Bx w1 w2 v' (X ++ ys) → wpList Try.prog ops Q rest (a.put o.dst v') w2) : wpList Try.prog ops Q (o :: rest) a w := by
  refine print_append_row (w0 := w1) w1.heap.size hgd s x 26 5 .u8 1 ho Try.underlying26 infoB (by decide) v X ys A m c hs hx hX.1 hR hX.2 hX.2.size (by omega) ?_
  intro v' wc hown hB hg hat
  exact h v' wc ⟨hown, hB⟩
end
set_option maxHeartbeats 4000000 in
set_option maxRecDepth 100000 in
theorem file_ok (A0 : Option Addr) (c0 : Nat) (l0 : List S123) (w : World) (hr0 : Kd.C k123 w A0 l0.length l0) (hc0 : l0.length ≤ c0) (hfm : fm (l0.map cv) = true) (hby : ∀ t ∈ l0, t.f1.all byteB = true) :
    Calls Try.prog 81 #[.slice A0 l0.length c0] w fun e w' => ∃ v0_ : Value, e = .returned (v0_) ∧ Kd.R (Kd.int .u8) 5 w' w.heap.size (fun _ => True) v0_ (lay (sortT (l0.map cv))) ∧ Below w.heap.size w w' := by
  have hn := fm_len hfm
  rw [List.length_map] at hn
  have hn1 := hn.1
  have hn2 := hn.2.1
  obtain ⟨kr, hkr⟩ := (risen_ev (fm_apart hfm) (by omega)).rounds
  have HRS := Aside0.mk (foundryref05_risen.calls kr (fun k => k < w.heap.size) A0 c0 l0 (srt l0) w (Kd.V_mk hc0 (Kd.F_below (Kd.C_F k123_heap hr0) (Below.refl _ _))) hkr)
  have HML := Aside0.mk (srt_len l0)
  obtain ⟨m, hm⟩ : ∃ m, srt l0 = m := ⟨_, rfl⟩
  have HMT : Aside0 (∀ t ∈ m, good t.f0 = true ∧ t.f1.length ≤ 1048576 ∧ t.f1.all byteB = true) := ⟨fun t ht => by
    have h1 : t ∈ l0 := (srt_perm l0).mem_iff.1 (hm ▸ ht)
    have h2 := fm_ok hfm (cv t) (List.mem_map_of_mem h1)
    exact ⟨h2.1, h2.2, hby t h1⟩⟩
  have HZ : Aside0 (headL m.length ++ dirL (m.map cv) (12 + 16 * (m.length : Int)) ++ bodL (m.map cv) = lay (sortT (l0.map cv))) := ⟨by
    have e : m.map cv = sortT (l0.map cv) := by rw [← hm]; unfold srt; rw [cv_vc]
    rw [← e]; unfold lay; rw [List.length_map]⟩
  obtain ⟨Z, hZ⟩ : ∃ Z, lay (sortT (l0.map cv)) = Z := ⟨_, rfl⟩
  rw [hZ] at HZ ⊢
  clear hZ
  rw [hm] at HRS HML
  clear hr0 hc0 hkr hn hfm hby hm
  go_enter Try.func81, Try.ntmps81
  go_wp2_with (go_at_call 114; refine HRS.out.mono ?_; rintro e w1 ⟨v, rfl, hN, hb⟩; obtain ⟨A, c, rfl, hle, hF⟩ := Kd.N_V (base' := w.heap.size) hN; have HC1 := Aside0.mk (Kd.F_now hF); have HB1 := Aside0.mk hb; clear hN hb hF hle HRS)
  obtain ⟨n, hn⟩ : ∃ n, m.length = n := ⟨_, rfl⟩
  have hln : l0.length = n := by rw [← HML.out, hn]
  rw [hln] at hn1 hn2
  have HMN := Aside0.mk hn
  simp only [hn]
  rw [hn] at HC1 HZ
  clear hn HML
  go_loopw [5, 6] (fun p q wr => ∃ k pk : Nat, p = .int .i64 (pk : Int) ∧ q = .int .i64 (k : Int) ∧ Aside0 (pk = 2 ^ k) ∧ 1 ≤ pk ∧ pk ≤ n ∧ k < pk ∧ w1 = wr) (fun p _ _ => n - (RowKit.intOf p).toNat)
  case atStart => exact ⟨0, 1, rfl, rfl, ⟨rfl⟩, by omega, by omega, by omega, rfl⟩
  case round =>
    obtain ⟨k, pk, rfl, rfl, HPK, hp1, hle, hlt, rfl⟩ := hrel
    have hw2 : wrap64 (2 * (pk : Int)) = 2 * (pk : Int) := by unfold wrap64; omega
    have hw1 : wrap64 ((k : Int) + 1) = (k : Int) + 1 := by unfold wrap64; omega
    by_cases h2 : 2 * pk ≤ n
    · have h2' : 2 * (pk : Int) ≤ (n : Int) := by omega
      go_wp2
      go_roundw
      case rel => exact ⟨k + 1, 2 * pk, by go_num, by go_num, ⟨by rw [HPK.out, Nat.pow_succ]; omega⟩, by omega, h2, by omega, by trivial⟩
      case measure => simp [RowKit.intOf]; omega
    · have h2' : (n : Int) < 2 * (pk : Int) := by omega
      have hpk := HPK.out
      have hk : n.log2 = k := (Nat.log2_eq_iff (by omega)).2 ⟨by omega, by rw [Nat.pow_succ]; omega⟩
      have HH : Aside0 (headL n = [] ++ be 65536 4 ++ be (n : Int) 2 ++ be (16 * (pk : Int)) 2 ++ be (k : Int) 2 ++ be (16 * (n : Int) - 16 * (pk : Int)) 2) := ⟨by unfold headL; rw [hk, ← hpk, List.nil_append, show 16 * (n : Int) - 16 * (pk : Int) = 16 * ((n : Int) - (pk : Int)) by omega]⟩
      clear hk hpk HPK
      have hx2 : wrap64 (16 * (pk : Int)) = 16 * (pk : Int) := by unfold wrap64; omega
      have hx3 : wrap64 (16 * (n : Int)) = 16 * (n : Int) := by unfold wrap64; omega
      have hx4 : wrap64 (16 * (n : Int) - 16 * (pk : Int)) = 16 * (n : Int) - 16 * (pk : Int) := by unfold wrap64; omega
      have hx5 : wrap64 (12 + 16 * (n : Int)) = 12 + 16 * (n : Int) := by unfold wrap64; omega
      have G1 := Aside0.mk (fun W => big4_calls 65536 (by omega) (by omega) W)
      have G2 := Aside0.mk (fun W => big2_calls (n : Int) (by omega) (by omega) W)
      have G3 := Aside0.mk (fun W => big2_calls (16 * (pk : Int)) (by omega) (by omega) W)
      have G4 := Aside0.mk (fun W => big2_calls (k : Int) (by omega) (by omega) W)
      have G5 := Aside0.mk (fun W => big2_calls (16 * (n : Int) - 16 * (pk : Int)) (by omega) (by omega) W)
      have HX := Aside0.mk (Bx.nil w1)
      obtain ⟨Y1, hY1⟩ : ∃ Y, be 65536 4 = Y := ⟨_, rfl⟩
      have HL1 : Aside0 (Y1.length = 4) := ⟨by rw [← hY1, be_len]⟩
      rw [hY1] at G1 HH
      clear hY1
      obtain ⟨Y2, hY2⟩ : ∃ Y, be (n : Int) 2 = Y := ⟨_, rfl⟩
      have HL2 : Aside0 (Y2.length = 2) := ⟨by rw [← hY2, be_len]⟩
      rw [hY2] at G2 HH
      clear hY2
      obtain ⟨Y3, hY3⟩ : ∃ Y, be (16 * (pk : Int)) 2 = Y := ⟨_, rfl⟩
      have HL3 : Aside0 (Y3.length = 2) := ⟨by rw [← hY3, be_len]⟩
      rw [hY3] at G3 HH
      clear hY3
      obtain ⟨Y4, hY4⟩ : ∃ Y, be (k : Int) 2 = Y := ⟨_, rfl⟩
      have HL4 : Aside0 (Y4.length = 2) := ⟨by rw [← hY4, be_len]⟩
      rw [hY4] at G4 HH
      clear hY4
      obtain ⟨Y5, hY5⟩ : ∃ Y, be (16 * (n : Int) - 16 * (pk : Int)) 2 = Y := ⟨_, rfl⟩
      have HL5 : Aside0 (Y5.length = 2) := ⟨by rw [← hY5, be_len]⟩
      rw [hY5] at G5 HH
      clear hY5
      go_wp2_with (first
        | (go_at_call 55; refine (G1.out _).mono ?_; rintro e wb ⟨Ab, cb, rfl, hY, hB⟩; have HX2 := Aside0.mk (HX.out.move hB); have HY := Aside0.mk hY; clear hY hB G1 HX)
        | (at_builtin; refine print_append_row (w0 := w1) w1.heap.size rfl (.tmp 23) (.tmp 24) 26 5 .u8 1 rfl Try.underlying26 infoB (by decide) _ ([]) Y1 _ 4 _ rfl rfl HX2.out.1 HY.out HX2.out.2 HX2.out.2.size (by have := HL1.out; simp only [List.length_append, List.length_nil]; omega) ?_; intro v1 wc hown hB hg hat; have HX3 := Aside0.mk (show Bx w1 wc v1 ([] ++ Y1) from ⟨hown, hB⟩); clear hown hB hg hat HX2 HY; have HX := HX3; clear HX3)
        | (go_at_call 55; refine (G2.out _).mono ?_; rintro e wb ⟨Ab, cb, rfl, hY, hB⟩; have HX2 := Aside0.mk (HX.out.move hB); have HY := Aside0.mk hY; clear hY hB G2 HX)
        | (at_builtin; refine print_append_row (w0 := w1) w1.heap.size rfl (.tmp 26) (.tmp 28) 26 5 .u8 1 rfl Try.underlying26 infoB (by decide) _ ([] ++ Y1) Y2 _ 2 _ rfl rfl HX2.out.1 HY.out HX2.out.2 HX2.out.2.size (by have := HL1.out; have := HL2.out; simp only [List.length_append, List.length_nil]; omega) ?_; intro v1 wc hown hB hg hat; have HX3 := Aside0.mk (show Bx w1 wc v1 ([] ++ Y1 ++ Y2) from ⟨hown, hB⟩); clear hown hB hg hat HX2 HY; have HX := HX3; clear HX3)
        | (go_at_call 55; refine (G3.out _).mono ?_; rintro e wb ⟨Ab, cb, rfl, hY, hB⟩; have HX2 := Aside0.mk (HX.out.move hB); have HY := Aside0.mk hY; clear hY hB G3 HX)
        | (at_builtin; refine print_append_row (w0 := w1) w1.heap.size rfl (.tmp 30) (.tmp 33) 26 5 .u8 1 rfl Try.underlying26 infoB (by decide) _ ([] ++ Y1 ++ Y2) Y3 _ 2 _ rfl rfl HX2.out.1 HY.out HX2.out.2 HX2.out.2.size (by have := HL1.out; have := HL2.out; have := HL3.out; simp only [List.length_append, List.length_nil]; omega) ?_; intro v1 wc hown hB hg hat; have HX3 := Aside0.mk (show Bx w1 wc v1 ([] ++ Y1 ++ Y2 ++ Y3) from ⟨hown, hB⟩); clear hown hB hg hat HX2 HY; have HX := HX3; clear HX3)
        | (go_at_call 55; refine (G4.out _).mono ?_; rintro e wb ⟨Ab, cb, rfl, hY, hB⟩; have HX2 := Aside0.mk (HX.out.move hB); have HY := Aside0.mk hY; clear hY hB G4 HX)
        | (at_builtin; refine print_append_row (w0 := w1) w1.heap.size rfl (.tmp 35) (.tmp 37) 26 5 .u8 1 rfl Try.underlying26 infoB (by decide) _ ([] ++ Y1 ++ Y2 ++ Y3) Y4 _ 2 _ rfl rfl HX2.out.1 HY.out HX2.out.2 HX2.out.2.size (by have := HL1.out; have := HL2.out; have := HL3.out; have := HL4.out; simp only [List.length_append, List.length_nil]; omega) ?_; intro v1 wc hown hB hg hat; have HX3 := Aside0.mk (show Bx w1 wc v1 ([] ++ Y1 ++ Y2 ++ Y3 ++ Y4) from ⟨hown, hB⟩); clear hown hB hg hat HX2 HY; have HX := HX3; clear HX3)
        | (go_at_call 55; refine (G5.out _).mono ?_; rintro e wb ⟨Ab, cb, rfl, hY, hB⟩; have HX2 := Aside0.mk (HX.out.move hB); have HY := Aside0.mk hY; clear hY hB G5 HX)
        | (at_builtin; refine print_append_row (w0 := w1) w1.heap.size rfl (.tmp 39) (.tmp 45) 26 5 .u8 1 rfl Try.underlying26 infoB (by decide) _ ([] ++ Y1 ++ Y2 ++ Y3 ++ Y4) Y5 _ 2 _ rfl rfl HX2.out.1 HY.out HX2.out.2 HX2.out.2.size (by have := HL1.out; have := HL2.out; have := HL3.out; have := HL4.out; have := HL5.out; simp only [List.length_append, List.length_nil]; omega) ?_; intro v1 wc hown hB hg hat; have HX3 := Aside0.mk (show Bx w1 wc v1 ([] ++ Y1 ++ Y2 ++ Y3 ++ Y4 ++ Y5) from ⟨hown, hB⟩); clear hown hB hg hat HX2 HY; have HX := HX3; clear HX3))
      obtain ⟨X0, hX0⟩ : ∃ X0, headL n = X0 := ⟨_, rfl⟩
      have HXL : Aside0 (X0.length = 12) := ⟨by rw [← hX0, headL_len]⟩
      rw [hX0] at HH HZ
      have HX5 := Aside0.mk HX.out
      rw [← HH.out] at HX5
      clear hX0 HH HX HL1 HL2 HL3 HL4 HL5 hx2 hx3 hx4 hx5
      obtain ⟨D, hD⟩ : ∃ D, X0 ++ dirL (m.map cv) (12 + 16 * (n : Int)) = D := ⟨_, rfl⟩
      rw [hD] at HZ
      have HQ0 : Aside0 (X0 ++ dirL ((m.map cv).drop 0) (12 + 16 * (n : Int)) = D) := ⟨hD⟩
      clear hD
      obtain ⟨w5, rfl⟩ : ∃ w5 : World, w5 = wc := ⟨_, rfl⟩
      go_loopw [7, 8, 9] (fun v a i wr => ∃ (j : Nat) (at_ : Int) (X : List Int), i = .int .i64 (j : Int) ∧ a = .int .i64 at_ ∧ j ≤ n ∧ 0 ≤ at_ ∧ at_ ≤ 1000 + 2000000 * (j : Int) ∧ Aside0 (X.length = 12 + 16 * j) ∧ Aside0 (Bx w1 wr v X) ∧ Aside0 (X ++ dirL ((m.map cv).drop j) at_ = D)) (fun _ _ i _ => n - (RowKit.intOf i).toNat)
      case atStart => exact ⟨0, _, _, rfl, rfl, by omega, by omega, by omega, ⟨HXL.out⟩, HX5, HQ0⟩
      case round =>
        obtain ⟨j, at_, X, rfl, rfl, hj, ha0, ha1, HXN, HX, HQ⟩ := hrel
        clear HX5 HQ0
        obtain ⟨wo, rfl⟩ : ∃ wo : World, wo = wr := ⟨_, rfl⟩
        by_cases hlt : j < n
        · have hp : (0 : Int) ≤ (j : Int) := by omega
          have hq : (j : Int) < (n : Int) := by omega
          obtain ⟨ad', B1, d1, had, hx0, hx1, hlc, hC1⟩ := at_T123 HC1.out (j : Int) hp hq
          subst had
          have hjm : j < m.length := by rw [HMN.out]; exact hlt
          have hrd : rd_T123 m (j : Int) = m[j] := by simp [rd_T123, hjm]
          have hmt := HMT.out m[j] (List.getElem_mem hjm)
          have HDq := HQ.out
          rw [← List.map_drop, List.drop_eq_getElem_cons hjm, List.map_cons] at HDq
          rw [hrd] at hx0 hx1 hlc hC1
          clear hrd
          obtain ⟨tt, htt⟩ : ∃ tt, m[j] = tt := ⟨_, rfl⟩
          rw [htt] at hx0 hx1 hlc hC1 hmt HDq
          clear htt hjm
          obtain ⟨t0, t1⟩ := tt
          simp only at hx0 hx1 hlc hC1 hmt
          simp only [Int.toNat_natCast] at hx0 hx1
          have HD1 : X ++ bytesOf t0 ++ be (sumB t1) 4 ++ be at_ 4 ++ be (t1.length : Int) 4 ++ dirL ((m.map cv).drop (j + 1)) (at_ + fill4 t1.length) = D := by
            rw [← HDq, ← List.map_drop]; simp only [dirL, cv, List.append_assoc]
          obtain ⟨ks, hks⟩ := (rsum_ev hmt.2.2 (by omega)).rounds
          obtain ⟨kf, hkf⟩ := (filled_ev t1 (by omega)).rounds
          have hsr := sumB_range t1
          have hpd : padN t1.length 4 < 4 := by unfold padN; omega
          have hf4 := fill4_eq t1.length
          have hT4 := bytesOf_four hmt.1
          have hT0 := good_size hmt.1
          have HSUM := Aside0.mk (fun (W : World) (hb : Below w1.heap.size w1 W) => foundryref05_Sum.calls ks B1 d1 t1 (sumB t1) W (Kd.C_below hC1 hb) hlc hks)
          have HFIL := Aside0.mk (fun (W : World) (hb : Below w1.heap.size w1 W) => foundryref05_filled.calls kf B1 d1 t1 (t1 ++ pads t1.length) W (Kd.C_below hC1 hb) hlc hkf)
          obtain ⟨R, hR⟩ : ∃ R, t1 ++ pads t1.length = R := ⟨_, rfl⟩
          have hRL : (R.length : Int) = fill4 t1.length := by rw [← hR, hf4, List.length_append]; simp [pads]
          have hL1 := hmt.2.1
          rw [← hRL] at HD1 hf4
          rw [hR] at HFIL
          obtain ⟨sm, hsm⟩ : ∃ sm, sumB t1 = sm := ⟨_, rfl⟩
          rw [hsm] at HSUM HD1 hsr
          obtain ⟨L, hL⟩ : ∃ L, t1.length = L := ⟨_, rfl⟩
          rw [hL] at hx1 HSUM HFIL HD1 hL1 hf4 hpd
          obtain ⟨q, hq'⟩ : ∃ q, R.length = q := ⟨_, rfl⟩
          rw [hq'] at HD1 hf4
          have HRQ := Aside0.mk hq'
          have hs0 := hsr.1
          have hs1 := hsr.2
          have hz4 : wrap64 (at_ + (q : Int)) = at_ + (q : Int) := by unfold wrap64; omega
          have hq1 : (q : Int) ≤ 1048580 := by omega
          have G1 := Aside0.mk (fun W => big4_calls sm hs0 hs1 W)
          have G2 := Aside0.mk (fun W => big4_calls at_ ha0 (by omega) W)
          have G3 := Aside0.mk (fun W => big4_calls (L : Int) (by omega) (by omega) W)
          obtain ⟨Y1, hY1⟩ : ∃ Y, be sm 4 = Y := ⟨_, rfl⟩
          have HL1 : Aside0 (Y1.length = 4) := ⟨by rw [← hY1, be_len]⟩
          obtain ⟨Y2, hY2⟩ : ∃ Y, be at_ 4 = Y := ⟨_, rfl⟩
          have HL2 : Aside0 (Y2.length = 4) := ⟨by rw [← hY2, be_len]⟩
          obtain ⟨Y3, hY3⟩ : ∃ Y, be (L : Int) 4 = Y := ⟨_, rfl⟩
          have HL3 : Aside0 (Y3.length = 4) := ⟨by rw [← hY3, be_len]⟩
          rw [hY1] at G1 HD1
          rw [hY2] at G2 HD1
          rw [hY3] at G3 HD1
          obtain ⟨T, hT⟩ : ∃ T, bytesOf t0 = T := ⟨_, rfl⟩
          have HBT := Aside0.mk hT
          rw [hT] at HD1 hT4
          have HT4 := Aside0.mk hT4
          have HTS : Aside0 (t0.size = 4) := ⟨hT0⟩
          have HDN := Aside0.mk HD1
          have H0 := Aside0.mk hx0
          have H1 := Aside0.mk hx1
          replace hx0 := pw_cell_below HX.out.2 hx0
          clear hx1 hmt HDq HD1 hks hkf hsr hf4 hpd hT0 hT4 hlc hC1 hRL hR hsm hL hq' hY1 hY2 hY3 hT HQ
          go_wp2_with (first
            | (at_builtin; refine bx_str rfl (.tmp 55) (.tmp 60) rfl HX.out rfl t0 rfl ?hl ?_; (case hl => have := HXN.out; have := HTS.out; omega); rw [HBT.out]; intro v2 wA hA; have HXA := Aside0.mk hA; have hx1 := pw_cell_below hA.2 H1.out; clear hA HX hx0)
            | (go_at_call 41; refine (HSUM.out _ HXA.out.2).mono ?_; rintro e wB ⟨rfl, hB⟩; have HXB := Aside0.mk (HXA.out.move hB); clear hB HXA HSUM hx1)
            | (go_at_call 55; refine (G1.out _).mono ?_; rintro e wC ⟨Ab, cb, rfl, hY, hB⟩; have HXC := Aside0.mk (HXB.out.move hB); have HY := Aside0.mk hY; clear hY hB G1 HXB)
            | (at_builtin; refine bx_row rfl (.tmp 62) (.tmp 70) rfl HXC.out rfl _ _ _ _ rfl HY.out ?hl ?_; (case hl => have := HXN.out; have := HT4.out; simp only [List.length_append]; omega); intro v3 wD hA; have HXD := Aside0.mk hA; clear hA HXC HY)
            | (go_at_call 55; refine (G2.out _).mono ?_; rintro e wE ⟨Ab, cb, rfl, hY, hB⟩; have HXE := Aside0.mk (HXD.out.move hB); have HY := Aside0.mk hY; clear hY hB G2 HXD)
            | (at_builtin; refine bx_row rfl (.tmp 72) (.tmp 74) rfl HXE.out rfl _ _ _ _ rfl HY.out ?hl ?_; (case hl => have := HXN.out; have := HT4.out; have := HL1.out; simp only [List.length_append]; omega); intro v4 wF hA; have HXF := Aside0.mk hA; have hx1 := pw_cell_below hA.2 H1.out; clear hA HXE HY)
            | (go_at_call 55; refine (G3.out _).mono ?_; rintro e wG ⟨Ab, cb, rfl, hY, hB⟩; have HXG := Aside0.mk (HXF.out.move hB); have HY := Aside0.mk hY; clear hY hB G3 HXF hx1)
            | (at_builtin; refine bx_row rfl (.tmp 76) (.tmp 83) rfl HXG.out rfl _ _ _ _ rfl HY.out ?hl ?_; (case hl => have := HXN.out; have := HT4.out; have := HL1.out; have := HL2.out; simp only [List.length_append]; omega); intro v5 wH hA; have HXH := Aside0.mk hA; have hx1 := pw_cell_below hA.2 H1.out; clear hA HXG HY)
            | (go_at_call 85; refine (HFIL.out _ HXH.out.2).mono ?_; rintro e wI ⟨vr, rfl, hR, hB⟩; obtain ⟨Ar, cr, rfl, hle2, hC⟩ := Kd.R_reads hR; rw [HRQ.out]; have HXI := Aside0.mk (HXH.out.move hB); clear hR hB hC hle2 HXH HFIL hx1))
          go_roundw
          case rel => exact ⟨j + 1, _, _, by go_num, rfl, by omega, by omega, by omega, ⟨by have := HXN.out; have := HT4.out; have := HL1.out; have := HL2.out; have := HL3.out; simp only [List.length_append]; omega⟩, HXI, HDN⟩
          case measure => simp [RowKit.intOf]; omega
        · obtain rfl : j = n := by omega
          have hFN : X = D := by
            have h := HQ.out
            rw [List.drop_of_length_le (by rw [List.length_map, HMN.out]; exact Nat.le_refl _), dirL, List.append_nil] at h
            exact h
          have HDL : Aside0 (D.length ≤ 1000) := ⟨by rw [← hFN, HXN.out]; omega⟩
          rw [hFN] at HX
          clear HQ hFN HXN ha0 ha1
          go_wp2
          have HQ1 : Aside0 (D ++ bodL ((m.map cv).drop 0) = Z) := ⟨HZ.out⟩
          obtain ⟨w6, rfl⟩ : ∃ w6 : World, w6 = wo := ⟨_, rfl⟩
          go_loopw [7, 10] (fun v i wr => ∃ (q : Nat) (X : List Int), i = .int .i64 (q : Int) ∧ q ≤ j ∧ Aside0 (X.length ≤ 1000 + 1048600 * q) ∧ Aside0 (Bx w1 wr v X) ∧ Aside0 (X ++ bodL ((m.map cv).drop q) = Z)) (fun _ i _ => j - (RowKit.intOf i).toNat)
          case atStart => exact ⟨0, _, rfl, by omega, ⟨by have := HDL.out; omega⟩, HX, HQ1⟩
          case round =>
            obtain ⟨q, X1, rfl, hqj, HXN, HX1, HQ7⟩ := hrel
            clear HX HQ1 HZ
            obtain ⟨wo, rfl⟩ : ∃ wo : World, wo = wr := ⟨_, rfl⟩
            by_cases hlt : q < j
            · have hp : (0 : Int) ≤ (q : Int) := by omega
              have hq : (q : Int) < (j : Int) := by omega
              obtain ⟨ad', B1, d1, had, hx0, hx1, hlc, hC1⟩ := at_T123 HC1.out (q : Int) hp hq
              subst had
              have hjm : q < m.length := by rw [HMN.out]; exact hlt
              have hrd : rd_T123 m (q : Int) = m[q] := by simp [rd_T123, hjm]
              have hmt := HMT.out m[q] (List.getElem_mem hjm)
              have HDq := HQ7.out
              rw [← List.map_drop, List.drop_eq_getElem_cons hjm, List.map_cons] at HDq
              rw [hrd] at hx0 hx1 hlc hC1
              clear hrd
              obtain ⟨tt, htt⟩ : ∃ tt, m[q] = tt := ⟨_, rfl⟩
              rw [htt] at hx0 hx1 hlc hC1 hmt HDq
              clear htt hjm
              obtain ⟨t0, t1⟩ := tt
              simp only at hx0 hx1 hlc hC1 hmt
              simp only [Int.toNat_natCast] at hx0 hx1
              have HD1 : X1 ++ (t1 ++ pads t1.length) ++ bodL ((m.map cv).drop (q + 1)) = Z := by
                rw [← HDq, ← List.map_drop]; simp only [bodL, cv, List.append_assoc]
              obtain ⟨kf, hkf⟩ := (filled_ev t1 (by omega)).rounds
              have hpd : padN t1.length 4 < 4 := by unfold padN; omega
              have HFIL := Aside0.mk (fun (W : World) (hb : Below w1.heap.size w1 W) => foundryref05_filled.calls kf B1 d1 t1 (t1 ++ pads t1.length) W (Kd.C_below hC1 hb) hlc hkf)
              obtain ⟨R, hR⟩ : ∃ R, t1 ++ pads t1.length = R := ⟨_, rfl⟩
              have HRL : Aside0 (R.length ≤ 1048580) := ⟨by rw [← hR, List.length_append]; simp only [pads, List.length_replicate]; have := hmt.2.1; omega⟩
              rw [hR] at HFIL HD1
              have HDN := Aside0.mk HD1
              replace hx0 := pw_cell_below HX1.out.2 hx0
              replace hx1 := pw_cell_below HX1.out.2 hx1
              clear hmt HDq HD1 hkf hpd hlc hC1 hR HQ7
              go_wp2_with (first
                | (go_at_call 85; refine (HFIL.out _ HX1.out.2).mono ?_; rintro e wI ⟨vr, rfl, hR, hB⟩; obtain ⟨Ar, cr, rfl, hle2, hC⟩ := Kd.R_reads hR; have HXI := Aside0.mk (HX1.out.move hB); have HY := Aside0.mk (C_reads hC); clear hR hB hC hle2 HX1 HFIL hx0 hx1)
                | (at_builtin; refine bx_row rfl (.tmp 99) (.tmp 105) rfl HXI.out rfl _ _ _ _ rfl HY.out ?hl ?_; (case hl => have := HXN.out; have := HRL.out; omega); intro v7 wJ hA; have HXJ := Aside0.mk hA; clear hA HXI HY))
              go_roundw
              case rel => exact ⟨q + 1, _, by go_num, by omega, ⟨by have := HXN.out; have := HRL.out; simp only [List.length_append]; omega⟩, HXJ, HDN⟩
              case measure => simp [RowKit.intOf]; omega
            · obtain rfl : q = j := by omega
              have hFN : X1 = Z := by
                have h := HQ7.out
                rw [List.drop_of_length_le (by rw [List.length_map, HMN.out]; exact Nat.le_refl _), bodL, List.append_nil] at h
                exact h
              rw [hFN] at HX1
              clear HQ7 hFN
              go_wp2
              go_ret
              exact ⟨_, rfl, own_R (own_weaken HX1.out.1 HB1.out.size) (fun _ _ => trivial), below_then HB1.out HB1.out.size HX1.out.2⟩

/-- The reference's file, in the print's form: of formed tables of bytes. -/
def foundryref05_file.f (l : List S123) : Option (List Int) := if fm (l.map cv) = true ∧ l.all (fun t => t.f1.all byteB) = true then some (lay (sortT (l.map cv))) else none
theorem foundryref05_file.calls (A0 : Option Addr) (c0 : Nat) (l0 : List S123) (r : List Int) (w : World) (hr0 : Kd.C k123 w A0 l0.length l0) (hc0 : l0.length ≤ c0) (h : foundryref05_file.f l0 = some r) :
    Calls Try.prog 81 #[.slice A0 l0.length c0] w fun e w' => ∃ v0_ : Value, e = .returned (v0_) ∧ Kd.R (Kd.int .u8) 5 w' w.heap.size (fun _ => True) v0_ r ∧ Below w.heap.size w w' := by
  unfold foundryref05_file.f at h
  split at h
  · rename_i hq
    obtain rfl := Option.some.inj h
    exact file_ok A0 c0 l0 w hr0 hc0 hq.1 (fun t ht => by have := hq.2; rw [List.all_eq_true] at this; exact this t ht)
  · cases h
end Go.Proofs.Ytmppdgjnibamlab.Pag
