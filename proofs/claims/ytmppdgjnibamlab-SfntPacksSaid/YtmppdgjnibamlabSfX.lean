/- The law's tables, the reference's Formed, Cut, Tag and Unpack, told plainly. -/
import Derived.Test.YtmppdgjnibamlabPSfx6
namespace Go.Proofs.Ytmppdgjnibamlab.Pag
open Go.RowKit Go.Proofs.Ytmppdgjnibamlab.PSf Go.Proofs.YtmppdgjnibamlabW.PrintWords
set_option linter.unusedVariables false
set_option linter.unusedSimpArgs false

theorem wsucc {j : Nat} (h : j ≤ 9000000000000000) : wrap64 ((j : Int) + 1) = ((j + 1 : Nat) : Int) := by unfold wrap64; omega
theorem plain_ev (l : List S115) (hl : l.length ≤ 1000000000) : Ev (fun k => foundrylaw05_plain.f k l) (l.map vc) := by
  unfold foundrylaw05_plain.f
  have h : ∀ d i : Nat, i + d = l.length → ∀ x : List S123, x.length = i → Ev (fun k => foundrylaw05_plain.l0 k l x (i : Int)) (x ++ (l.drop i).map vc) := by
    intro d
    induction d with
    | zero =>
      intro i hi x hx
      rw [List.drop_of_length_le (by omega), List.map_nil, List.append_nil]
      exact Ev.step (fun k => by rw [foundrylaw05_plain.l0, if_neg (by omega)]) (Ev.now _)
    | succ d ih =>
      intro i hi x hx
      have hlt : i < l.length := by omega
      have e : rd_T115 l (i : Int) = l[i] := by simp [rd_T115, hlt]
      have hn := ih (i + 1) (by omega) (x ++ [vc l[i]]) (by simp [hx])
      rw [List.append_assoc, List.singleton_append] at hn
      rw [List.drop_eq_getElem_cons hlt, List.map_cons]
      exact Ev.step (fun k => by rw [foundrylaw05_plain.l0, if_pos (by omega), if_pos (by omega), if_pos (by omega), e, wsucc (by omega)]; rfl) hn
  exact h l.length 0 (by omega) [] rfl

def rat (x : List S123) (i : Nat) : Bool := good (rd_T123 x (i : Int)).f0 && (decide ((rd_T123 x (i : Int)).f1.length ≤ 1048576) && (List.range' 0 i).all (fun j => !decide ((rd_T123 x (j : Int)).f0.toList = (rd_T123 x (i : Int)).f0.toList)))
theorem rform_l1 (x : List S123) (hl : x.length ≤ 1000) (i : Nat) (hi : i < x.length) (R : Bool) (h : Ev (fun k => foundryref05_Formed.l0 k x ((i + 1 : Nat) : Int)) R) : ∀ d j : Nat, j + d = i →
    Ev (fun k => foundryref05_Formed.l1 k x (i : Int) (j : Int)) ((List.range' j d).all (fun j => !decide ((rd_T123 x (j : Int)).f0.toList = (rd_T123 x (i : Int)).f0.toList)) && R) := by
  intro d
  induction d with
  | zero => intro j hj; exact Ev.step (fun k => by rw [foundryref05_Formed.l1, if_neg (by omega), wsucc (by omega)]) h
  | succ d ih =>
    intro j hj
    have hn := ih (j + 1) (by omega)
    rw [List.range'_succ, List.all_cons, Bool.and_assoc]
    by_cases he : (rd_T123 x (j : Int)).f0.toList = (rd_T123 x (i : Int)).f0.toList
    · rw [decide_eq_true he, Bool.not_true, Bool.false_and]
      exact Ev.step (fun k => by rw [foundryref05_Formed.l1, if_pos (by omega), if_pos (by omega), if_pos (by omega), if_pos (by omega), if_pos (by omega), if_pos he]) (Ev.now _)
    · rw [decide_eq_false he, Bool.not_false, Bool.true_and]
      exact Ev.step (fun k => by rw [foundryref05_Formed.l1, if_pos (by omega), if_pos (by omega), if_pos (by omega), if_pos (by omega), if_pos (by omega), if_neg he, wsucc (by omega)]) hn
theorem rform_l0 (x : List S123) (hl : x.length ≤ 1000) (hs : ∀ t ∈ x, t.f0.size ≤ 9223372036854775807) : ∀ d i : Nat, i + d = x.length →
    Ev (fun k => foundryref05_Formed.l0 k x (i : Int)) ((List.range' i d).all (rat x)) := by
  intro d
  induction d with
  | zero => intro i hi; exact Ev.step (fun k => by rw [foundryref05_Formed.l0, if_neg (by omega)]; rfl) (Ev.now _)
  | succ d ih =>
    intro i hi
    have hlt : i < x.length := by omega
    have e : rd_T123 x (i : Int) = x[i] := by simp [rd_T123, hlt]
    have hsz := hs x[i] (List.getElem_mem hlt)
    rw [← e] at hsz
    have hn := ih (i + 1) (by omega)
    have h1 := rform_l1 x hl i hlt _ hn i 0 (by omega)
    rw [List.range'_succ, List.all_cons]
    refine Ev.step (fun k => by rw [foundryref05_Formed.l0, if_pos (by omega), if_pos (by omega)]) ?_
    refine Ev.bind (rgood_ev _ hsz) ?_
    unfold rat
    have no : Ev (fun k => foundryref05_Formed.j2 k x (i : Int) true) false := Ev.step (fun k => by rw [foundryref05_Formed.j2, if_pos rfl]) (Ev.now _)
    cases hg : good (rd_T123 x (i : Int)).f0 with
    | false => rw [Bool.false_and, Bool.false_and]; exact Ev.congr (fun k => by rw [if_neg (by decide)]) no
    | true =>
      refine Ev.congr (fun k => by rw [if_pos rfl]) ?_
      rw [Bool.true_and]
      by_cases hb : (rd_T123 x (i : Int)).f1.length ≤ 1048576
      · rw [decide_eq_true hb, Bool.true_and, decide_eq_false (by omega)]
        exact Ev.step (fun k => by rw [foundryref05_Formed.j2, if_neg (by decide)]; rfl) h1
      · rw [decide_eq_false hb, Bool.false_and, Bool.false_and, decide_eq_true (by omega)]
        exact no
theorem rat_all {x : List S123} (h : fm (x.map cv) = true) : (List.range' 0 x.length).all (rat x) = true := by
  rw [List.all_eq_true]
  intro i hi
  have hi' : i < x.length := by have := List.mem_range'_1.1 hi; omega
  have e : rd_T123 x (i : Int) = x[i] := by simp [rd_T123, hi']
  have hk := fm_ok h (cv x[i]) (List.mem_map_of_mem (List.getElem_mem hi'))
  have ha := fm_apart h
  unfold apart at ha
  rw [List.pairwise_map] at ha
  unfold rat
  rw [e, show good x[i].f0 = true from hk.1, decide_eq_true (show x[i].f1.length ≤ 1048576 from hk.2), Bool.true_and, Bool.true_and, List.all_eq_true]
  intro j hj
  have hj' : j < i := by have := List.mem_range'_1.1 hj; omega
  have e2 : rd_T123 x (j : Int) = x[j]'(by omega) := by simp [rd_T123, show j < x.length by omega]
  rw [e2, decide_eq_false (fun hq => (List.pairwise_iff_getElem.1 ha) j i (by omega) hi' hj' (toList_inj hq))]; rfl
theorem all_rat {x : List S123} (h1 : 1 ≤ x.length) (h2 : x.length ≤ 32) (h : (List.range' 0 x.length).all (rat x) = true) : fm (x.map cv) = true := by
  rw [List.all_eq_true] at h
  have hr : ∀ i (hi : i < x.length), good x[i].f0 = true ∧ x[i].f1.length ≤ 1048576 ∧ ∀ j (hj : j < i), x[j].f0 ≠ x[i].f0 := by
    intro i hi
    have hq := h i (List.mem_range'_1.2 ⟨by omega, by omega⟩)
    have e : rd_T123 x (i : Int) = x[i] := by simp [rd_T123, hi]
    unfold rat at hq
    rw [e] at hq
    simp only [Bool.and_eq_true, decide_eq_true_eq, List.all_eq_true] at hq
    refine ⟨hq.1, hq.2.1, fun j hj he => ?_⟩
    have e2 : rd_T123 x (j : Int) = x[j]'(by omega) := by simp [rd_T123, show j < x.length by omega]
    have hz := hq.2.2 j (List.mem_range'_1.2 ⟨by omega, by omega⟩)
    rw [e2, he] at hz
    simp at hz
  refine fm_intro (by rw [List.length_map]; exact h1) (by rw [List.length_map]; exact h2) (fun t ht => ?_) ?_
  · obtain ⟨u, hu, rfl⟩ := List.mem_map.1 ht
    obtain ⟨i, hi, rfl⟩ := List.mem_iff_getElem.1 hu
    exact ⟨(hr i hi).1, (hr i hi).2.1⟩
  · unfold apart
    rw [List.pairwise_map, List.pairwise_iff_getElem]
    intro i j hi hj hij
    exact (hr j hj).2.2 i hij
theorem rform_ev (x : List S123) (hs : ∀ t ∈ x, t.f0.size ≤ 9223372036854775807) : Ev (fun k => foundryref05_Formed.f k x) (fm (x.map cv)) := by
  unfold foundryref05_Formed.f
  have no : Ev (fun k => foundryref05_Formed.j0 k x true) false := Ev.step (fun k => by rw [foundryref05_Formed.j0, if_pos rfl]) (Ev.now _)
  have fmf : ¬ (1 ≤ x.length ∧ x.length ≤ 32) → fm (x.map cv) = false := fun hn => by
    cases hf : fm (x.map cv) with
    | false => rfl
    | true => have := fm_len hf; rw [List.length_map] at this; exact absurd ⟨this.1, this.2.1⟩ hn
  by_cases h1 : x.length < 1
  · simp only [if_pos (show (x.length : Int) < 1 by omega)]
    rw [fmf (by omega)]; exact no
  · simp only [if_neg (show ¬ ((x.length : Int) < 1) by omega)]
    by_cases h2 : x.length ≤ 32
    · rw [decide_eq_false (by omega)]
      refine Ev.step (fun k => by rw [foundryref05_Formed.j0, if_neg (by decide)]) ?_
      have hq := rform_l0 x (by omega) hs x.length 0 (by omega)
      have e : fm (x.map cv) = (List.range' 0 x.length).all (rat x) := by
        rw [Bool.eq_iff_iff]
        exact ⟨rat_all, all_rat (by omega) h2⟩
      rw [e]; exact hq
    · rw [decide_eq_true (by omega), fmf (by omega)]; exact no
theorem rcut_eq {b : List Int} (hl : b.length ≤ 1000000000) {a s : Int} (ha0 : -9000000000000000 ≤ a) (ha : a ≤ 9000000000000000) (hs0 : -9000000000000000 ≤ s) (hs : s ≤ 9000000000000000) : foundryref04_Cut.f b a s = some (cutP b a s) := by
  unfold foundryref04_Cut.f cutP
  by_cases h0 : a < 0
  · rw [if_pos h0, if_pos (by omega)]
  · rw [if_neg h0]
    by_cases h1 : s < 0
    · rw [if_pos h1, if_pos (by omega)]
    · rw [if_neg h1]
      by_cases h2 : s > (b.length : Int)
      · rw [if_pos h2, if_pos (by omega)]
      · rw [if_neg h2, show wrap64 ((b.length : Int) - s) = (b.length : Int) - s by unfold wrap64; omega]
        by_cases h3 : a > (b.length : Int) - s
        · rw [if_pos h3, if_pos (by omega)]
        · rw [if_neg h3, show wrap64 (a + s) = a + s by unfold wrap64; omega, if_pos (by omega), if_pos (by omega), if_pos (by omega)]
          have e : (b.take (a + s).toNat).drop a.toNat = (b.drop a.toNat).take s.toNat := by
            rw [List.drop_take]; congr 1; omega
          rw [e, if_pos (by simp only [List.length_nil, List.length_take, List.length_drop]; omega), List.nil_append, if_neg (by omega)]
theorem rtag_eq {b : List Int} (hl : b.length ≤ 1000000000) {a : Int} (ha0 : -9000000000000000 ≤ a) (ha : a ≤ 9000000000000000) : foundryref04_Tag.f b a = some (tagP b a) := by
  unfold foundryref04_Tag.f tagP
  rw [rcut_eq hl ha0 ha (by omega) (by omega), Option.bind_some]
  by_cases h : a < 0 ∨ a > (b.length : Int) - 4
  · have e : cutP b a 4 = ([], false) := by unfold cutP; rw [if_pos (by omega)]
    rw [e, if_pos h]; rfl
  · have e : cutP b a 4 = ((b.drop a.toNat).take 4, true) := by unfold cutP; rw [if_neg (by omega)]; rfl
    rw [e, if_neg h]
    simp only [if_true]
    rw [if_pos (by simp only [List.length_take, List.length_drop]; omega)]
    split <;> rfl
/-- The tables that a directory tells. -/
def rows (b : List Int) (n : Nat) : List S115 := (List.range n).map (tabP b)
theorem rows_succ (b : List Int) (n : Nat) : rows b (n + 1) = rows b n ++ [tabP b n] := by simp [rows, List.range_succ]
theorem unL_rows (b : List Int) : ∀ d i acc l, acc = rows b i → unL b d i acc = some l → l = rows b (i + d) := by
  intro d
  induction d with
  | zero => intro i acc l ha h; obtain rfl := Option.some.inj h; exact ha
  | succ d ih =>
    intro i acc l ha h
    unfold unL at h
    split at h
    · have := ih (i + 1) _ l (by rw [rows_succ, ha]) h
      rw [this]; congr 1; omega
    · cases h
theorem same_ev {x y : List Int} (hx : x.length ≤ 1000000000) : Ev (fun k => foundryref04_Same.f k x y) (decide (x = y)) := by
  unfold foundryref04_Same.f
  by_cases hl : x.length = y.length
  · simp only [if_pos (show (x.length : Int) = (y.length : Int) by omega)]
    have h : ∀ d i : Nat, i + d = x.length → Ev (fun k => foundryref04_Same.l0 k x y (i : Int)) (decide (x.drop i = y.drop i)) := by
      intro d
      induction d with
      | zero =>
        intro i hi
        rw [List.drop_of_length_le (by omega), List.drop_of_length_le (by omega)]
        exact Ev.step (fun k => by rw [foundryref04_Same.l0, if_neg (by omega)]; rfl) (Ev.now _)
      | succ d ih =>
        intro i hi
        have h1 : i < x.length := by omega
        have h2 : i < y.length := by omega
        have e1 : rd x (i : Int) = x[i] := by simp [rd, h1]
        have e2 : rd y (i : Int) = y[i] := by simp [rd, h2]
        have hn := ih (i + 1) (by omega)
        rw [List.drop_eq_getElem_cons h1, List.drop_eq_getElem_cons h2]
        by_cases he : x[i] = y[i]
        · have e : decide (x[i] :: x.drop (i + 1) = y[i] :: y.drop (i + 1)) = decide (x.drop (i + 1) = y.drop (i + 1)) := by simp only [he, List.cons.injEq, true_and]
          rw [e]
          exact Ev.step (fun k => by rw [foundryref04_Same.l0, if_pos (by omega), if_pos (by omega), if_pos (by omega), e1, e2, if_pos he, wsucc (by omega)]) hn
        · rw [decide_eq_false (fun h => he (List.cons.inj h).1)]
          exact Ev.step (fun k => by rw [foundryref04_Same.l0, if_pos (by omega), if_pos (by omega), if_pos (by omega), e1, e2, if_neg he]) (Ev.now _)
    exact h x.length 0 (by omega)
  · simp only [if_neg (show ¬ ((x.length : Int) = (y.length : Int)) by omega)]
    rw [decide_eq_false (fun h => hl (congrArg List.length h))]
    exact Ev.now _
end Go.Proofs.Ytmppdgjnibamlab.Pag
