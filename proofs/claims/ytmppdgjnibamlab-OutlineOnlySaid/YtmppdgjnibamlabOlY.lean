/- What outline.Write has written is read as it was; and all bytes are read, or refused. Plain. -/
import Derived.Test.YtmppdgjnibamlabOlX
namespace Go.Proofs.Ytmppdgjnibamlab.Pag
open Go.RowKit Go.Proofs.Ytmppdgjnibamlab.POl Go.Proofs.YtmppdgjnibamlabW.PrintWords
set_option linter.unusedVariables false
set_option linter.unusedSimpArgs false

/-! ### all bytes are read -/
theorem l1_tot {b : List Int} (hb : b.all byteB = true) (ends : List Int) (pts : Nat) (hp : pts ≤ 80) (hl : ends.length ≤ 100) (he : ∀ e ∈ ends, 0 ≤ e ∧ e < (pts : Int)) : ∀ (d : Nat) (acc : List Int) (a : Int), pts - acc.length ≤ d → acc.length ≤ pts → 0 ≤ a → a ≤ 1000 + 2 * (acc.length : Int) →
    ∃ p : List (List Pt) × List Pr, Ev (fun k => outline_contours.l1 k b ends (pts : Int) a acc) p ∧ (∀ c ∈ p.1, c.length ≤ 1000) ∧ p.2 = [] := by
  intro d
  induction d with
  | zero =>
    intro acc a hd ha h0 h1
    refine ⟨_, rest_ev hb ends acc pts hp (by omega) hl he a h0 (by omega), ?_, rfl⟩
    exact segs_len _ _ _ _ _ (fun e h => by have := he e h; omega)
  | succ d ih =>
    intro acc a hd ha h0 h1
    by_cases hlt : acc.length < pts
    · cases hf : (fieldP b a 1).2 with
      | false => exact ⟨_, l1_bad hb ends acc pts a h0 (by omega) hlt hf, by simp, rfl⟩
      | true =>
        have hc : 1 ≤ stepC b a := by unfold stepC; split <;> omega
        have hs : a ≤ stepA b a ∧ stepA b a ≤ a + 2 := by unfold stepA; split <;> omega
        obtain ⟨p, h2, h3⟩ := ih (acc ++ List.replicate (min (stepC b a) (pts - acc.length)) (fieldP b a 1).1) (stepA b a) (by simp; omega) (by simp; omega) (by omega) (by simp; omega)
        exact ⟨p, l1_step hb ends acc pts hp a h0 (by omega) hlt hf p h2, h3⟩
    · refine ⟨_, rest_ev hb ends acc pts hp (by omega) hl he a h0 (by omega), ?_, rfl⟩
      exact segs_len _ _ _ _ _ (fun e h => by have := he e h; omega)
theorem l0_tot {b : List Int} (hb : b.all byteB = true) (n : Nat) (hn : n ≤ 10) (a : Int) (h0 : 0 ≤ a) (h1 : a ≤ 1000) : ∀ d i : Nat, i + d = n → ∀ (acc : List Int) (pts : Nat), acc.length = i → pts ≤ 80 → (∀ e ∈ acc, 0 ≤ e ∧ e < (pts : Int)) →
    ∃ p : List (List Pt) × List Pr, Ev (fun k => outline_contours.l0 k b acc (pts : Int) a (n : Int) (i : Int)) p ∧ (∀ c ∈ p.1, c.length ≤ 1000) ∧ p.2 = [] := by
  intro d
  induction d with
  | zero =>
    intro i hi acc pts hac hp he
    obtain ⟨p, h2, h3⟩ := l1_tot hb acc pts hp (by omega) he pts [] a (by simp) (by simp) h0 (by simp; omega)
    exact ⟨p, Ev.step (fun k => by rw [outline_contours.l0, if_neg (by omega)]) h2, h3⟩
  | succ d ih =>
    intro i hi acc pts hac hp he
    have W1 := Aside0.mk (show wrap64 (2 + wrap64 (2 * (i : Int))) = 2 + 2 * (i : Int) by unfold wrap64; omega)
    have hr := fieldP_range hb (2 + 2 * (i : Int)) (n := 2) (.inr rfl)
    by_cases c1 : (fieldP b (2 + 2 * (i : Int)) 2).1 < (pts : Int)
    · exact ⟨([], []), Ev.step (fun k => by rw [outline_contours.l0, if_pos (by omega), W1.out, u16_eq hb, Option.bind_some, if_pos c1]) (Ev.now _), by simp, rfl⟩
    · by_cases c2 : (fieldP b (2 + 2 * (i : Int)) 2).1 ≥ 80
      · exact ⟨([], []), Ev.step (fun k => by rw [outline_contours.l0, if_pos (by omega), W1.out, u16_eq hb, Option.bind_some, if_neg c1, if_pos c2]) (Ev.now _), by simp, rfl⟩
      · obtain ⟨e, hee⟩ : ∃ e : Nat, (fieldP b (2 + 2 * (i : Int)) 2).1 = (e : Int) := ⟨(fieldP b (2 + 2 * (i : Int)) 2).1.toNat, by omega⟩
        rw [hee] at c1 c2
        obtain ⟨p, h2, h3⟩ := ih (i + 1) (by omega) (acc ++ [(e : Int)]) (e + 1) (by simp [hac]) (by omega) (fun x hx => by
          rcases List.mem_append.1 hx with hx | hx
          · have := he x hx
            omega
          · rw [List.mem_singleton.1 hx]; omega)
        exact ⟨p, Ev.step (fun k => by rw [outline_contours.l0, if_pos (by omega), W1.out, u16_eq hb, Option.bind_some, hee, if_neg c1, if_neg c2, if_pos (by omega), wnat (by omega), wnat (by omega)]) h2, h3⟩
theorem contours_tot {b : List Int} (hb : b.all byteB = true) (n : Nat) (hn : n ≤ 10) : ∃ p : List (List Pt) × List Pr, Ev (fun k => outline_contours.f k b (n : Int)) p ∧ (∀ c ∈ p.1, c.length ≤ 1000) ∧ p.2 = [] := by
  unfold outline_contours.f
  rw [show wrap64 (2 + wrap64 (2 * (n : Int))) = 2 + 2 * (n : Int) by unfold wrap64; omega]
  exact l0_tot hb n hn (2 + 2 * (n : Int)) (by omega) (by omega) n 0 (by omega) [] 0 rfl (by omega) (by simp)
def prP (b : List Int) (i : Nat) : Pr := ⟨(fieldP b (4 + 6 * (i : Int)) 2).1, (i16P b (6 + 6 * (i : Int))).1, (i16P b (8 + 6 * (i : Int))).1⟩
theorem parts_loop {b : List Int} (hb : b.all byteB = true) (n : Nat) (hn : n ≤ 6) : ∀ d i : Nat, i + d = n → ∀ acc : List Pr, acc.length = i → Ev (fun k => outline_parts.l0 k b (n : Int) (i : Int) acc) ([], acc ++ (List.range' i d).map (prP b)) := by
  intro d
  induction d with
  | zero =>
    intro i hi acc hac
    exact Ev.step (fun k => by rw [outline_parts.l0, if_neg (by omega)]) (by rw [show (List.range' i 0).map (prP b) = [] from rfl, List.append_nil]; exact Ev.now _)
  | succ d ih =>
    intro i hi acc hac
    have W1 := Aside0.mk (show wrap64 (4 + wrap64 (6 * (i : Int))) = 4 + 6 * (i : Int) by unfold wrap64; omega)
    have W2 := Aside0.mk (show wrap64 (6 + wrap64 (6 * (i : Int))) = 6 + 6 * (i : Int) by unfold wrap64; omega)
    have W3 := Aside0.mk (show wrap64 (8 + wrap64 (6 * (i : Int))) = 8 + 6 * (i : Int) by unfold wrap64; omega)
    have hn2 := ih (i + 1) (by omega) (acc ++ [prP b i]) (by simp [hac])
    rw [List.append_assoc, List.singleton_append] at hn2
    rw [List.range'_succ, List.map_cons]
    exact Ev.step (fun k => by rw [outline_parts.l0, if_pos (by omega), W1.out, u16_eq hb, Option.bind_some, W2.out, i16_eq hb, Option.bind_some, W3.out, i16_eq hb, Option.bind_some, if_pos (by omega), wnat (by omega)]; rfl) hn2
theorem parts_ev2 {b : List Int} (hb : b.all byteB = true) : Ev (fun k => outline_parts.f k b) ([], (List.range' 0 (min (fieldP b 2 2).1.toNat 6)).map (prP b)) := by
  unfold outline_parts.f
  have hr := fieldP_range hb 2 (n := 2) (.inr rfl)
  have hm : mn (fieldP b 2 2).1 6 = ((min (fieldP b 2 2).1.toNat 6 : Nat) : Int) := by unfold mn; omega
  refine Ev.congr (fun k => by rw [u16_eq hb, Option.bind_some, hm]) ?_
  have := parts_loop hb (min (fieldP b 2 2).1.toNat 6) (by omega) (min (fieldP b 2 2).1.toNat 6) 0 (by omega) [] rfl
  rw [List.nil_append] at this
  exact this

/-! ### fields that were put -/
theorem len_be2 (x : Int) : (be x 2).length = 2 := by simp [be]
theorem len_be1 (x : Int) : (be x 1).length = 1 := by simp [be]
theorem be_two (x : Int) : be x 2 = [x / 256 % 256, x % 256] := by simp [be, List.range_succ]
theorem be_one (x : Int) : be x 1 = [x % 256] := by simp [be, List.range_succ]
theorem field2 {b P R : List Int} {x a : Int} (hb : b = P ++ (be x 2 ++ R)) (ha : a = (P.length : Int)) : fieldP b a 2 = (x % 65536, true) := by
  subst hb ha
  unfold fieldP
  rw [if_neg (by simp [len_be2]; omega), Int.toNat_natCast, List.drop_left, List.take_left' (by rw [len_be2]; rfl), be_two]
  simp only [numBE, List.foldl_cons, List.foldl_nil]
  congr 1
  omega
theorem field1 {b P R : List Int} {x a : Int} (hb : b = P ++ (be x 1 ++ R)) (ha : a = (P.length : Int)) : fieldP b a 1 = (x % 256, true) := by
  subst hb ha
  unfold fieldP
  rw [if_neg (by simp [len_be1]; omega), Int.toNat_natCast, List.drop_left, List.take_left' (by rw [len_be1]; rfl), be_one]
  simp only [numBE, List.foldl_cons, List.foldl_nil]
  congr 1
  omega
theorem sign2 {b P R : List Int} {x a : Int} (hb : b = P ++ (be x 2 ++ R)) (ha : a = (P.length : Int)) (h0 : -32768 ≤ x) (h1 : x ≤ 32767) : i16P b a = (x, true) := by
  unfold i16P
  rw [field2 hb ha]
  unfold sg
  simp only
  congr 1
  split <;> omega

/-! ### coordinates that were put -/
def psum : Int → List Int → List Int
  | _, [] => []
  | x, d :: r => (x + d) :: psum (x + d) r
def DD (sh sa so : Int) : List Int → List Int → Prop
  | [], [] => True
  | g :: G, d :: D => (Go.bits .and .i64 g so = flg d sh sa ∧ -32768 ≤ d ∧ d ≤ 32767) ∧ DD sh sa so G D
  | _, _ => False
theorem dP_rt {b P R : List Int} {g d a sh sa so : Int} (hs : (sh = 2 ∧ sa = 16 ∧ so = 18) ∨ (sh = 4 ∧ sa = 32 ∧ so = 36)) (hg : Go.bits .and .i64 g so = flg d sh sa) (h0 : -32768 ≤ d) (h1 : d ≤ 32767) (hb : b = P ++ (dif d ++ R)) (ha : a = (P.length : Int)) :
    dP b a g sh so = (d, a + ((dif d).length : Int)) := by
  have hq : sa ≠ so ∧ sa ≠ sh ∧ sa ≠ 0 ∧ sh ≠ so ∧ so ≠ 0 ∧ sh ≠ 0 ∧ sh + sa = so := by rcases hs with ⟨rfl, rfl, rfl⟩ | ⟨rfl, rfl, rfl⟩ <;> decide
  unfold dP
  rw [hg]
  unfold dif at hb ⊢
  unfold flg
  by_cases c0 : d = 0
  · rw [if_pos c0, if_neg hq.1, if_neg hq.2.1, if_neg hq.2.2.1, if_pos c0]
    simp [c0]
  · rw [if_neg c0] at hb
    by_cases c1 : 0 < d ∧ d ≤ 255
    · rw [if_pos c1] at hb
      rw [if_neg c0, if_pos c1, if_pos hq.2.2.2.2.2.2, if_neg c0, if_pos c1, field1 hb ha, len_be1]
      simp only
      congr 1
      omega
    · rw [if_neg c1] at hb
      by_cases c2 : d < 0 ∧ -255 ≤ d
      · rw [if_pos c2] at hb
        rw [if_neg c0, if_neg c1, if_pos c2, if_neg hq.2.2.2.1, if_pos rfl, if_neg c0, if_neg c1, if_pos c2, field1 hb ha, len_be1]
        simp only
        congr 1
        omega
      · rw [if_neg c2] at hb
        rw [if_neg c0, if_neg c1, if_neg c2, if_neg (Ne.symm hq.2.2.2.2.1), if_neg (Ne.symm hq.2.2.2.2.2.1), if_pos rfl, if_neg c0, if_neg c1, if_neg c2, sign2 hb ha h0 h1, len_be2]
        rfl
theorem coord_rt {b : List Int} {sh sa so : Int} (hs : (sh = 2 ∧ sa = 16 ∧ so = 18) ∨ (sh = 4 ∧ sa = 32 ∧ so = 36)) : ∀ (D G P R : List Int) (a x : Int), DD sh sa so G D → b = P ++ (D.flatMap dif ++ R) → a = (P.length : Int) → coordP b sh so G a x = (psum x D, a + ((D.flatMap dif).length : Int))
  | [], [], P, R, a, x, _, hb, ha => by simp [coordP, psum]
  | [], g :: G, P, R, a, x, h, _, _ => h.elim
  | d :: D, [], P, R, a, x, h, _, _ => h.elim
  | d :: D, g :: G, P, R, a, x, h, hb, ha => by
    obtain ⟨⟨h1, h2, h3⟩, h4⟩ := h
    rw [List.flatMap_cons] at hb
    have e := dP_rt (b := b) (P := P) hs h1 h2 h3 (R := D.flatMap dif ++ R) (by rw [hb, List.append_assoc]) ha
    rw [coordP, e]
    simp only
    rw [coord_rt hs D G (P ++ dif d) R (a + ((dif d).length : Int)) (x + d) h4 (by rw [hb]; simp only [List.append_assoc]) (by rw [ha, List.length_append]; omega)]
    simp only [psum, List.flatMap_cons, List.length_append]
    congr 1
    omega
theorem psum_x : ∀ (l : List Pt) (a b : Int), psum a ((stp a b l).map (fun s => s.1)) = l.map (fun p => p.f0)
  | [], _, _ => rfl
  | p :: r, a, b => by
    rw [stp, List.map_cons, psum, List.map_cons]
    simp only
    rw [show a + (p.f0 - a) = p.f0 by omega, psum_x r]
theorem psum_y : ∀ (l : List Pt) (a b : Int), psum b ((stp a b l).map (fun s => s.2.1)) = l.map (fun p => p.f1)
  | [], _, _ => rfl
  | p :: r, a, b => by
    rw [stp, List.map_cons, psum, List.map_cons]
    simp only
    rw [show b + (p.f1 - b) = p.f1 by omega, psum_y r]

/-! ### flags that were put -/
theorem flag_bits2 (x y z : Int) (h1 : x = 16 ∨ x = 2 + 16 ∨ x = 2 ∨ x = 0) (h2 : y = 32 ∨ y = 4 + 32 ∨ y = 4 ∨ y = 0) (h3 : z = 1 ∨ z = 0) : Go.bits .and .i64 (x + y + z) 8 = 0 ∧ Go.bits .and .i64 (x + y + z + 8) 8 = 8 ∧ Go.bits .and .i64 (x + y + z) 1 = z ∧ Go.bits .and .i64 (x + y + z + 8) 1 = z ∧
    Go.bits .and .i64 (x + y + z + 8) 18 = x ∧ Go.bits .and .i64 (x + y + z + 8) 36 = y := by
  rcases h1 with rfl | rfl | rfl | rfl <;> rcases h2 with rfl | rfl | rfl | rfl <;> rcases h3 with rfl | rfl <;> decide
theorem flag_bits3 (s : Stp) : Go.bits .and .i64 (flagOf s) 8 = 0 ∧ Go.bits .and .i64 (flagOf s + 8) 8 = 8 ∧ Go.bits .and .i64 (flagOf s) 1 = (if s.2.2 = true then 1 else 0) ∧ Go.bits .and .i64 (flagOf s + 8) 1 = (if s.2.2 = true then 1 else 0) ∧
    Go.bits .and .i64 (flagOf s + 8) 18 = flg s.1 2 16 ∧ Go.bits .and .i64 (flagOf s + 8) 36 = flg s.2.1 4 32 :=
  flag_bits2 _ _ (if s.2.2 = true then 1 else 0) (flg_cases s.1 2 16) (flg_cases s.2.1 4 32) (by split; exact .inl rfl; exact .inr rfl)
def Fl (f : Int) : Prop := 0 ≤ f ∧ f ≤ 55 ∧ Go.bits .and .i64 f 8 = 0 ∧ Go.bits .and .i64 (f + 8) 8 = 8
theorem Fl_of (s : Stp) : Fl (flagOf s) := ⟨(flag_bits s).2.2.2.2.2.1, (flag_bits s).2.2.2.2.2.2, (flag_bits3 s).1, (flag_bits3 s).2.1⟩
def Sim : List Int → List Int → Prop
  | [], [] => True
  | g :: G, f :: F => (g = f ∨ g = f + 8) ∧ Sim G F
  | _, _ => False
theorem Sim.len : ∀ {G F : List Int}, Sim G F → G.length = F.length
  | [], [], _ => rfl
  | [], f :: F, h => h.elim
  | g :: G, [], h => h.elim
  | g :: G, f :: F, h => by rw [List.length_cons, List.length_cons, Sim.len h.2]
theorem Sim.get : ∀ {G F : List Int}, Sim G F → ∀ (i : Nat) (h1 : i < G.length) (h2 : i < F.length), G[i] = F[i] ∨ G[i] = F[i] + 8
  | [], [], _, i, h1, _ => by simp at h1
  | [], f :: F, h, _, _, _ => h.elim
  | g :: G, [], h, _, _, _ => h.elim
  | g :: G, f :: F, h, 0, _, _ => h.1
  | g :: G, f :: F, h, i + 1, h1, h2 => Sim.get h.2 i (by simpa using h1) (by simpa using h2)
theorem Sim.rep (f : Int) : ∀ (m : Nat) (r G : List Int), m ≤ lead f r → Sim G (r.drop m) → Sim (List.replicate m (f + 8) ++ G) r
  | 0, r, G, _, h => by simpa using h
  | m + 1, [], G, hm, _ => by simp [lead] at hm
  | m + 1, x :: r, G, hm, h => by
    unfold lead at hm
    split at hm
    · rename_i hx
      subst hx
      rw [List.replicate_succ, List.cons_append]
      exact ⟨.inr rfl, Sim.rep x m r G (by omega) h⟩
    · omega
theorem flags_rt {b : List Int} (hb : b.all byteB = true) (ends : List Int) (pts : Nat) (hp : pts ≤ 80) : ∀ (n : Nat) (fs : List Int), fs.length ≤ n → (∀ f ∈ fs, Fl f) → ∀ (P Q acc : List Int) (a : Int), b = P ++ (rle fs ++ Q) → a = (P.length : Int) → P.length + 2 * fs.length ≤ 1000 → acc.length + fs.length = pts →
    ∃ G, Sim G fs ∧ ∀ R, Ev (fun k => outline_contours.l1 k b ends (pts : Int) (a + ((rle fs).length : Int)) (acc ++ G)) R → Ev (fun k => outline_contours.l1 k b ends (pts : Int) a acc) R := by
  intro n
  induction n with
  | zero =>
    intro fs hn _ P Q acc a _ _ _ _
    obtain rfl : fs = [] := List.eq_nil_of_length_eq_zero (by omega)
    exact ⟨[], trivial, fun R h => by simpa [rle_nil] using h⟩
  | succ n ih =>
    intro fs hn hfl P Q acc a hbe ha hP hac
    match fs, hn, hfl, hbe, hac, hP with
    | [], _, _, _, _, _ => exact ⟨[], trivial, fun R h => by simpa [rle_nil] using h⟩
    | f :: r, hn, hfl, hbe, hac, hP =>
      rw [List.length_cons] at hn hac hP
      obtain ⟨f0, f1, f2, f3⟩ := hfl f (by simp)
      rw [rle_cons] at hbe ⊢
      have hle := lead_le f r
      have hrd : ∀ x ∈ r.drop (lead f r), Fl x := fun x hx => hfl x (List.mem_cons_of_mem _ (List.mem_of_mem_drop hx))
      by_cases h0 : lead f r = 0
      · rw [if_pos h0] at hbe ⊢
        rw [h0, List.drop_zero] at hbe hrd ⊢
        have hrf := field1 (b := b) (P := P) (x := f) (R := rle r ++ Q) (by rw [hbe, List.append_assoc]) ha
        rw [show f % 256 = f by omega] at hrf
        obtain ⟨G, hG, hR⟩ := ih r (by omega) hrd (P ++ be f 1) Q (acc ++ [f]) (a + 1) (by rw [hbe]; simp only [List.append_assoc]) (by rw [List.length_append, len_be1]; omega) (by rw [List.length_append, len_be1]; omega) (by simp; omega)
        refine ⟨f :: G, ⟨.inl rfl, hG⟩, fun R h => ?_⟩
        refine l1_step hb ends acc pts hp a (by omega) (by omega) (by omega) (by rw [hrf]) R ?_
        have e1 : stepC b a = 1 := by unfold stepC; rw [hrf, if_pos f2]
        have e2 : stepA b a = a + 1 := by unfold stepA; rw [hrf, if_pos f2]
        rw [e1, e2, hrf, show min 1 (pts - acc.length) = 1 by omega]
        refine hR R ?_
        rw [List.append_assoc, List.singleton_append]
        rw [List.length_append, len_be1] at h
        rw [show a + 1 + ((rle r).length : Int) = a + ((1 + (rle r).length : Nat) : Int) by omega]
        exact h
      · rw [if_neg h0] at hbe ⊢
        have hrf := field1 (b := b) (P := P) (x := f + 8) (R := be (lead f r : Int) 1 ++ (rle (r.drop (lead f r)) ++ Q)) (by rw [hbe]; simp only [List.append_assoc]) ha
        have hrm := field1 (b := b) (P := P ++ be (f + 8) 1) (a := a + 1) (R := rle (r.drop (lead f r)) ++ Q) (x := (lead f r : Int)) (by rw [hbe]; simp only [List.append_assoc]) (by rw [List.length_append, len_be1]; omega)
        rw [show (f + 8) % 256 = f + 8 by omega] at hrf
        rw [show (lead f r : Int) % 256 = (lead f r : Int) by omega] at hrm
        obtain ⟨G, hG, hR⟩ := ih (r.drop (lead f r)) (by rw [List.length_drop]; omega) hrd (P ++ be (f + 8) 1 ++ be (lead f r : Int) 1) Q (acc ++ List.replicate (1 + lead f r) (f + 8)) (a + 2) (by rw [hbe]; simp only [List.append_assoc]) (by rw [List.length_append, List.length_append, len_be1, len_be1]; omega) (by
          rw [List.length_append, List.length_append, len_be1, len_be1, List.length_drop]; omega) (by simp [List.length_drop]; omega)
        refine ⟨List.replicate (1 + lead f r) (f + 8) ++ G, ?_, fun R h => ?_⟩
        · rw [show 1 + lead f r = lead f r + 1 by omega, List.replicate_succ, List.cons_append]
          exact ⟨.inr rfl, Sim.rep f (lead f r) r G (Nat.le_refl _) hG⟩
        · refine l1_step hb ends acc pts hp a (by omega) (by omega) (by omega) (by rw [hrf]) R ?_
          have e1 : stepC b a = 1 + lead f r := by unfold stepC; rw [hrf, if_neg (by rw [f3]; decide), hrm, Int.toNat_natCast]
          have e2 : stepA b a = a + 2 := by unfold stepA; rw [hrf, if_neg (by rw [f3]; decide)]
          rw [e1, e2, hrf, show min (1 + lead f r) (pts - acc.length) = 1 + lead f r by omega]
          refine hR R ?_
          rw [List.append_assoc]
          rw [List.length_append, List.length_append, len_be1, len_be1] at h
          rw [show a + 2 + ((rle (r.drop (lead f r))).length : Int) = a + ((1 + 1 + (rle (r.drop (lead f r))).length : Nat) : Int) by omega]
          exact h
end Go.Proofs.Ytmppdgjnibamlab.Pag
