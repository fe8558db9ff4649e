/- outline.Formed, Points, Ends, field, flag, told plainly. -/
import Derived.Test.YtmppdgjnibamlabPOlx4
import Derived.Test.YtmppdgjnibamlabPOlx5
import Derived.Test.YtmppdgjnibamlabPgH
namespace Go.Proofs.Ytmppdgjnibamlab.Pag
open Go.RowKit Go.Proofs.Ytmppdgjnibamlab.POl Go.Proofs.YtmppdgjnibamlabW.PrintWords
set_option linter.unusedVariables false
set_option linter.unusedSimpArgs false

abbrev Pt := S40
abbrev Pr := S82
def inF (x : Int) : Bool := decide (-32768 ≤ x) && decide (x ≤ 32767)
theorem inF_iff {x : Int} : inF x = true ↔ -32768 ≤ x ∧ x ≤ 32767 := by simp [inF]
theorem field_ev (a b : Int) : Ev (fun k => outline_field.f k [a, b]) (inF a && inF b) := by
  unfold outline_field.f
  have r0 : rd [a, b] 0 = a := rfl
  have r1 : rd [a, b] 1 = b := rfl
  have w0 : wrap64 (0 + 1) = 1 := by unfold wrap64; omega
  have w1 : wrap64 (1 + 1) = 2 := by unfold wrap64; omega
  have hl : (([a, b] : List Int).length : Int) = 2 := rfl
  simp only [hl]
  by_cases a0 : a < -32768
  · refine Ev.step (fun k => by rw [outline_field.l0, if_pos (by omega), if_pos (by omega), if_pos (by omega), r0, if_pos a0]) ?_
    rw [show inF a = false by simp [inF]; omega]; exact Ev.now _
  · by_cases a1 : a > 32767
    · refine Ev.step (fun k => by rw [outline_field.l0, if_pos (by omega), if_pos (by omega), if_pos (by omega), r0, if_neg a0, if_pos a1]) ?_
      rw [show inF a = false by simp [inF]; omega]; exact Ev.now _
    · refine Ev.step (fun k => by rw [outline_field.l0, if_pos (by omega), if_pos (by omega), if_pos (by omega), r0, if_neg a0, if_neg a1, w0]) ?_
      rw [show inF a = true by simp [inF]; omega, Bool.true_and]
      by_cases b0 : b < -32768
      · refine Ev.step (fun k => by rw [outline_field.l0, if_pos (by omega), if_pos (by omega), if_pos (by rw [hl]; omega), r1, if_pos b0]) ?_
        rw [show inF b = false by simp [inF]; omega]; exact Ev.now _
      · by_cases b1 : b > 32767
        · refine Ev.step (fun k => by rw [outline_field.l0, if_pos (by omega), if_pos (by omega), if_pos (by rw [hl]; omega), r1, if_neg b0, if_pos b1]) ?_
          rw [show inF b = false by simp [inF]; omega]; exact Ev.now _
        · refine Ev.step (fun k => by rw [outline_field.l0, if_pos (by omega), if_pos (by omega), if_pos (by rw [hl]; omega), r1, if_neg b0, if_neg b1, w1]) ?_
          refine Ev.step (fun k => by rw [outline_field.l0, if_neg (by omega)]) ?_
          rw [show inF b = true by simp [inF]; omega]; exact Ev.now _

def ptsIn (c : List Pt) : Bool := c.all fun p => inF p.f0 && inF p.f1
def conF : List (List Pt) → Nat → Bool
  | [], _ => true
  | c :: r, n => decide (c.length ≠ 0) && (decide (n + c.length ≤ 80) && (ptsIn c && conF r (n + c.length)))
def parF (ps : List Pr) : Bool := ps.all fun p => decide (0 ≤ p.f0) && (decide (p.f0 ≤ 65535) && (inF p.f1 && inF p.f2))
def fmO (cs : List (List Pt)) (ps : List Pr) : Bool := !(decide (0 < cs.length) && decide (0 < ps.length)) && (decide (cs.length ≤ 10) && (decide (ps.length ≤ 6) && (conF cs 0 && parF ps)))

theorem rdC {cs : List (List Pt)} {i : Nat} (h : i < cs.length) : rd_L3 cs (i : Int) = cs[i] := by simp [rd_L3, h]
theorem rdP {c : List Pt} {i : Nat} (h : i < c.length) : rd_T40 c (i : Int) = c[i] := by simp [rd_T40, h]
theorem rdR {c : List Pr} {i : Nat} (h : i < c.length) : rd_T82 c (i : Int) = c[i] := by simp [rd_T82, h]
theorem wnat {j : Nat} (h : j ≤ 9000000000000000) : wrap64 ((j : Int) + 1) = ((j + 1 : Nat) : Int) := by unfold wrap64; omega
theorem parts_ev (ps : List Pr) (hl : ps.length ≤ 1000) : ∀ d j : Nat, j + d = ps.length → Ev (fun k => outline_Formed.l2 k ps (ps.length : Int) (j : Int)) (parF (ps.drop j)) := by
  intro d
  induction d with
  | zero =>
    intro j hj
    rw [List.drop_of_length_le (by omega)]
    exact Ev.step (fun k => by rw [outline_Formed.l2, if_neg (by omega)]) (Ev.now true)
  | succ d ih =>
    intro j hj
    have hlt : j < ps.length := by omega
    have hn := ih (j + 1) (by omega)
    rw [List.drop_eq_getElem_cons hlt]
    have e : parF (ps[j] :: ps.drop (j + 1)) = (decide (0 ≤ ps[j].f0) && (decide (ps[j].f0 ≤ 65535) && (inF ps[j].f1 && inF ps[j].f2)) && parF (ps.drop (j + 1))) := rfl
    rw [e]
    have hr := rdR hlt
    generalize ps[j] = p at hr ⊢
    by_cases h0 : p.f0 < 0
    · refine Ev.step (fun k => by rw [outline_Formed.l2, if_pos (by omega), if_pos (by omega), if_pos (by omega), hr, if_pos h0]) ?_
      rw [decide_eq_false (show ¬ (0 ≤ p.f0) by omega), Bool.false_and, Bool.false_and]; exact Ev.now _
    · by_cases h1 : p.f0 > 65535
      · refine Ev.step (fun k => by rw [outline_Formed.l2, if_pos (by omega), if_pos (by omega), if_pos (by omega), hr, if_neg h0, if_pos h1]) ?_
        rw [decide_eq_false (show ¬ (p.f0 ≤ 65535) by omega), Bool.false_and, Bool.and_false, Bool.false_and]; exact Ev.now _
      · refine Ev.step (fun k => by rw [outline_Formed.l2, if_pos (by omega), if_pos (by omega), if_pos (by omega), hr, if_neg h0, if_neg h1]) ?_
        refine Ev.bind (field_ev p.f1 p.f2) ?_
        rw [decide_eq_true (show 0 ≤ p.f0 by omega), decide_eq_true (show p.f0 ≤ 65535 by omega), Bool.true_and, Bool.true_and]
        cases (inF p.f1 && inF p.f2) with
        | true => refine Ev.congr (fun k => by rw [if_pos rfl, wnat (by omega)]) ?_; rw [Bool.true_and]; exact hn
        | false => exact Ev.congr (fun k => by rw [if_neg (by decide)]) (by rw [Bool.false_and]; exact Ev.now _)
theorem points_ev (x3 : Int) (cs : List (List Pt)) (n i : Int) (c : List Pt) (ps : List Pr) (hc : c.length ≤ 1000) (R : Bool) (h : Ev (fun k => outline_Formed.l0 k x3 cs n (wrap64 (i + 1)) cs ps) R) :
    ∀ d j : Nat, j + d = c.length → Ev (fun k => outline_Formed.l1 k x3 cs n i c (c.length : Int) (j : Int) cs ps) (ptsIn (c.drop j) && R) := by
  intro d
  induction d with
  | zero =>
    intro j hj
    rw [List.drop_of_length_le (by omega)]
    exact Ev.step (fun k => by rw [outline_Formed.l1, if_neg (by omega)]) h
  | succ d ih =>
    intro j hj
    have hlt : j < c.length := by omega
    have hn := ih (j + 1) (by omega)
    rw [List.drop_eq_getElem_cons hlt]
    have e : ptsIn (c[j] :: c.drop (j + 1)) = (inF c[j].f0 && inF c[j].f1 && ptsIn (c.drop (j + 1))) := rfl
    rw [e]
    have hr := rdP hlt
    generalize c[j] = p at hr ⊢
    refine Ev.step (fun k => by rw [outline_Formed.l1, if_pos (by omega), if_pos (by omega), if_pos (by omega), hr]) ?_
    refine Ev.bind (field_ev p.f0 p.f1) ?_
    cases (inF p.f0 && inF p.f1) with
    | true => refine Ev.congr (fun k => by rw [if_pos rfl, wnat (by omega)]) ?_; rw [Bool.true_and]; exact hn
    | false => exact Ev.congr (fun k => by rw [if_neg (by decide)]) (by rw [Bool.false_and, Bool.false_and]; exact Ev.now _)
theorem cons_ev (cs : List (List Pt)) (ps : List Pr) (hl : cs.length ≤ 1000) (hc : ∀ c ∈ cs, c.length ≤ 1000000000000) (hp : ps.length ≤ 1000) : ∀ d i : Nat, i + d = cs.length → ∀ n : Nat, n ≤ 80 →
    Ev (fun k => outline_Formed.l0 k (n : Int) cs (cs.length : Int) (i : Int) cs ps) (conF (cs.drop i) n && parF ps) := by
  intro d
  induction d with
  | zero =>
    intro i hi n hn
    rw [List.drop_of_length_le (by omega)]
    exact Ev.step (fun k => by rw [outline_Formed.l0, if_neg (by omega)]; rfl) (parts_ev ps hp ps.length 0 (by omega))
  | succ d ih =>
    intro i hi n hn
    have hlt : i < cs.length := by omega
    have hcl := hc cs[i] (List.getElem_mem hlt)
    rw [List.drop_eq_getElem_cons hlt]
    have e : conF (cs[i] :: cs.drop (i + 1)) n = (decide (cs[i].length ≠ 0) && (decide (n + cs[i].length ≤ 80) && (ptsIn cs[i] && conF (cs.drop (i + 1)) (n + cs[i].length)))) := rfl
    rw [e]
    have hr := rdC hlt
    generalize cs[i] = c at hr hcl ⊢
    have hw : wrap64 ((n : Int) + (c.length : Int)) = ((n + c.length : Nat) : Int) := by unfold wrap64; omega
    by_cases h0 : c.length = 0
    · refine Ev.step (fun k => by rw [outline_Formed.l0, if_pos (by omega), if_pos (by omega), if_pos (by omega), hr, if_pos (by omega)]) ?_
      refine Ev.step (fun k => by rw [outline_Formed.j2, if_pos rfl]) ?_
      rw [decide_eq_false (show ¬ (c.length ≠ 0) by omega), Bool.false_and, Bool.false_and]; exact Ev.now _
    · refine Ev.step (fun k => by rw [outline_Formed.l0, if_pos (by omega), if_pos (by omega), if_pos (by omega), hr, if_neg (by omega), hw]) ?_
      rw [decide_eq_true (show c.length ≠ 0 from h0), Bool.true_and]
      by_cases h1 : n + c.length ≤ 80
      · rw [decide_eq_true h1, Bool.true_and, Bool.and_assoc]
        have hn2 := ih (i + 1) (by omega) (n + c.length) h1
        refine Ev.step (fun k => by rw [outline_Formed.j2, if_neg (by simp; omega)]) ?_
        have := points_ev ((n + c.length : Nat) : Int) cs (cs.length : Int) (i : Int) c ps (by omega) _ (by rw [wnat (by omega)]; exact hn2) c.length 0 (by omega)
        exact this
      · rw [decide_eq_false h1, Bool.false_and, Bool.false_and]
        exact Ev.step (fun k => by rw [outline_Formed.j2, if_pos (by simp; omega)]) (Ev.now _)
theorem formed_ev (cs : List (List Pt)) (ps : List Pr) (hc : ∀ c ∈ cs, c.length ≤ 1000000000000) : Ev (fun k => outline_Formed.f k cs ps) (fmO cs ps) := by
  unfold outline_Formed.f fmO
  have no : Ev (fun k => outline_Formed.j0 k true cs ps) false := Ev.step (fun k => by rw [outline_Formed.j0, if_pos rfl]) (Ev.now _)
  have go (h10 : cs.length ≤ 10) : Ev (fun k => outline_Formed.j0 k (decide ((ps.length : Int) > 6)) cs ps) (decide (ps.length ≤ 6) && (conF cs 0 && parF ps)) := by
    by_cases h6 : ps.length ≤ 6
    · rw [decide_eq_true h6, Bool.true_and]
      refine Ev.step (fun k => by rw [outline_Formed.j0, if_neg (by simp; omega)]) ?_
      exact cons_ev cs ps (by omega) hc (by omega) cs.length 0 (by omega) 0 (by omega)
    · rw [decide_eq_false h6, Bool.false_and]
      exact Ev.step (fun k => by rw [outline_Formed.j0, if_pos (by simp; omega)]) (Ev.now _)
  by_cases h0 : 0 < cs.length
  · simp only [if_pos (show (cs.length : Int) > 0 by omega), decide_eq_true h0, Bool.true_and]
    by_cases h1 : 0 < ps.length
    · simp only [if_pos (show (ps.length : Int) > 0 by omega), decide_eq_true h1, Bool.not_true, Bool.false_and]; exact no
    · simp only [if_neg (show ¬ ((ps.length : Int) > 0) by omega), decide_eq_false h1, Bool.not_false, Bool.true_and]
      by_cases h2 : cs.length ≤ 10
      · simp only [if_neg (show ¬ ((cs.length : Int) > 10) by omega), decide_eq_true h2, Bool.true_and]; exact go h2
      · simp only [if_pos (show (cs.length : Int) > 10 by omega), decide_eq_false h2, Bool.false_and]; exact no
  · simp only [if_neg (show ¬ ((cs.length : Int) > 0) by omega), decide_eq_false h0, Bool.false_and, Bool.not_false, Bool.true_and]
    simp only [if_neg (show ¬ ((cs.length : Int) > 10) by omega), decide_eq_true (show cs.length ≤ 10 by omega), Bool.true_and]
    exact go (by omega)

theorem conF_len : ∀ (cs : List (List Pt)) (n : Nat), conF cs n = true → n ≤ 80 → n + cs.flatten.length ≤ 80 ∧ (∀ c ∈ cs, 1 ≤ c.length ∧ c.length ≤ 80 ∧ ptsIn c = true)
  | [], n, _, h => ⟨by simpa using h, by simp⟩
  | c :: r, n, h, hn => by
    simp only [conF, Bool.and_eq_true, decide_eq_true_eq] at h
    obtain ⟨h1, h2, h3, h4⟩ := h
    obtain ⟨h5, h6⟩ := conF_len r _ h4 h2
    refine ⟨by simp only [List.flatten_cons, List.length_append]; omega, fun d hd => ?_⟩
    rcases List.mem_cons.1 hd with rfl | hd
    · exact ⟨by omega, by omega, h3⟩
    · exact h6 d hd
structure FmO (cs : List (List Pt)) (ps : List Pr) : Prop where
  one : cs = [] ∨ ps = []
  con : cs.length ≤ 10
  par : ps.length ≤ 6
  pts : cs.flatten.length ≤ 80
  ne : ∀ c ∈ cs, 1 ≤ c.length ∧ c.length ≤ 80
  inn : ∀ p ∈ cs.flatten, -32768 ≤ p.f0 ∧ p.f0 ≤ 32767 ∧ -32768 ≤ p.f1 ∧ p.f1 ≤ 32767
  prs : ∀ p ∈ ps, 0 ≤ p.f0 ∧ p.f0 ≤ 65535 ∧ -32768 ≤ p.f1 ∧ p.f1 ≤ 32767 ∧ -32768 ≤ p.f2 ∧ p.f2 ≤ 32767
theorem fmO_facts {cs : List (List Pt)} {ps : List Pr} (h : fmO cs ps = true) : FmO cs ps := by
  simp only [fmO, Bool.and_eq_true, Bool.not_eq_true', decide_eq_true_eq, Bool.and_eq_false_iff, decide_eq_false_iff_not] at h
  obtain ⟨h1, h2, h3, h4, h5⟩ := h
  obtain ⟨h6, h7⟩ := conF_len cs 0 h4 (by omega)
  refine ⟨?_, h2, h3, by omega, fun c hc => ⟨(h7 c hc).1, (h7 c hc).2.1⟩, fun p hp => ?_, fun p hp => ?_⟩
  · rcases h1 with h1 | h1
    · exact .inl (List.eq_nil_of_length_eq_zero (by omega))
    · exact .inr (List.eq_nil_of_length_eq_zero (by omega))
  · obtain ⟨c, hc, hp⟩ := List.mem_flatten.1 hp
    have h8 := (h7 c hc).2.2
    simp only [ptsIn, List.all_eq_true, Bool.and_eq_true, inF_iff] at h8
    have := h8 p hp
    exact ⟨this.1.1, this.1.2, this.2.1, this.2.2⟩
  · simp only [parF, List.all_eq_true, Bool.and_eq_true, decide_eq_true_eq, inF_iff] at h5
    have := h5 p hp
    exact ⟨this.1, this.2.1, this.2.2.1.1, this.2.2.1.2, this.2.2.2.1, this.2.2.2.2⟩

theorem pts_ev (cs : List (List Pt)) (ps : List Pr) (hl : cs.length ≤ 1000000) (ht : cs.flatten.length ≤ 100000000) : Ev (fun k => outline_Points.f k cs ps) cs.flatten := by
  unfold outline_Points.f
  have h : ∀ d i : Nat, i + d = cs.length → ∀ x : List Pt, x.length + (cs.drop i).flatten.length ≤ 100000000 → Ev (fun k => outline_Points.l0 k x cs (cs.length : Int) (i : Int)) (x ++ (cs.drop i).flatten) := by
    intro d
    induction d with
    | zero =>
      intro i hi x hx
      rw [List.drop_of_length_le (by omega), List.flatten_nil, List.append_nil]
      exact Ev.step (fun k => by rw [outline_Points.l0, if_neg (by omega)]) (Ev.now _)
    | succ d ih =>
      intro i hi x hx
      have hlt : i < cs.length := by omega
      rw [List.drop_eq_getElem_cons hlt, List.flatten_cons] at hx ⊢
      rw [List.length_append] at hx
      have hn := ih (i + 1) (by omega) (x ++ cs[i]) (by rw [List.length_append]; omega)
      rw [List.append_assoc] at hn
      have hr := rdC hlt
      exact Ev.step (fun k => by rw [outline_Points.l0, if_pos (by omega), if_pos (by omega), if_pos (by omega), hr, if_pos (by omega), wnat (by omega)]) hn
  exact h cs.length 0 (by omega) [] (by simpa using ht)
def endsO : List (List Pt) → Int → List Int
  | [], _ => []
  | c :: r, n => (n + (c.length : Int)) :: endsO r (n + (c.length : Int))
theorem endsO_len : ∀ (cs : List (List Pt)) (n : Int), (endsO cs n).length = cs.length
  | [], _ => rfl
  | c :: r, n => by simp [endsO, endsO_len r]
theorem ends_ev (cs : List (List Pt)) (ps : List Pr) (hl : cs.length ≤ 1000000) (ht : cs.flatten.length ≤ 100000000) : Ev (fun k => outline_Ends.f k cs ps) (endsO cs (-1)) := by
  unfold outline_Ends.f
  have h : ∀ d i : Nat, i + d = cs.length → ∀ (x : List Int) (n : Int), x.length = i → -1 ≤ n → n + ((cs.drop i).flatten.length : Int) ≤ 100000000 → Ev (fun k => outline_Ends.l0 k x n cs (cs.length : Int) (i : Int)) (x ++ endsO (cs.drop i) n) := by
    intro d
    induction d with
    | zero =>
      intro i hi x n hx h0 h1
      rw [List.drop_of_length_le (by omega), endsO, List.append_nil]
      exact Ev.step (fun k => by rw [outline_Ends.l0, if_neg (by omega)]) (Ev.now _)
    | succ d ih =>
      intro i hi x n hx h0 h1
      have hlt : i < cs.length := by omega
      rw [List.drop_eq_getElem_cons hlt] at h1 ⊢
      rw [List.flatten_cons, List.length_append] at h1
      rw [endsO]
      have hn := ih (i + 1) (by omega) (x ++ [n + (cs[i].length : Int)]) (n + (cs[i].length : Int)) (by simp [hx]) (by omega) (by omega)
      rw [List.append_assoc, List.singleton_append] at hn
      have hr := rdC hlt
      have hw : wrap64 (n + (cs[i].length : Int)) = n + (cs[i].length : Int) := by unfold wrap64; omega
      exact Ev.step (fun k => by rw [outline_Ends.l0, if_pos (by omega), if_pos (by omega), if_pos (by omega), hr, hw, if_pos (by omega), wnat (by omega)]) hn
  exact h cs.length 0 (by omega) [] (-1) rfl (by omega) (by simpa using (show (-1 : Int) + (cs.flatten.length : Int) ≤ 100000000 by omega))
/-- The part of a flag that tells a difference. -/
def flg (d short same : Int) : Int := if d = 0 then same else if 0 < d ∧ d ≤ 255 then short + same else if d < 0 ∧ -255 ≤ d then short else 0
theorem flag_ev (d short same : Int) (h : (short = 2 ∧ same = 16) ∨ (short = 4 ∧ same = 32)) : Ev (fun k => outline_flag.f k d short same) (flg d short same) := by
  unfold outline_flag.f flg
  by_cases h0 : d = 0
  · simp only [if_pos h0]; exact Ev.now _
  · simp only [if_neg h0]
    by_cases h1 : d > 0
    · simp only [if_pos h1]
      by_cases h2 : d ≤ 255
      · refine Ev.step (fun k => by rw [outline_flag.j0, if_pos (decide_eq_true h2)]) ?_
        rw [if_pos ⟨h1, h2⟩]
        rcases h with ⟨rfl, rfl⟩ | ⟨rfl, rfl⟩ <;> exact Ev.now _
      · refine Ev.step (fun k => by rw [outline_flag.j0, if_neg (by simpa using h2), if_neg (by omega)]) ?_
        rw [if_neg (by omega), if_neg (by omega)]; exact Ev.now _
    · simp only [if_neg h1]
      by_cases h2 : d ≥ -255
      · refine Ev.step (fun k => by rw [outline_flag.j0, if_neg (by decide), if_pos (by omega), if_pos h2]) ?_
        rw [if_neg (by omega), if_pos ⟨by omega, h2⟩]; exact Ev.now _
      · refine Ev.step (fun k => by rw [outline_flag.j0, if_neg (by decide), if_pos (by omega), if_neg h2]) ?_
        rw [if_neg (by omega), if_neg (by omega)]; exact Ev.now _
end Go.Proofs.Ytmppdgjnibamlab.Pag
