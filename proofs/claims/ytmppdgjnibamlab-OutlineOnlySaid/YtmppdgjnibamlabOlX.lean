/- outline's readers: what they read of bytes, step by step. Plain. -/
import Derived.Test.YtmppdgjnibamlabPOlx7
import Derived.Test.YtmppdgjnibamlabPOlx8
import Derived.Test.YtmppdgjnibamlabOlB
namespace Go.Proofs.Ytmppdgjnibamlab.Pag
open Go.RowKit Go.Proofs.Ytmppdgjnibamlab.POl Go.Proofs.YtmppdgjnibamlabW.PrintWords
set_option linter.unusedVariables false
set_option linter.unusedSimpArgs false

def fieldP (b : List Int) (a n : Int) : Int × Bool := if a < 0 ∨ a > (b.length : Int) - n then (0, false) else (numBE ((b.drop a.toNat).take n.toNat), true)
def i16P (b : List Int) (a : Int) : Int × Bool := sg 32768 (fieldP b a 2)
theorem u8_eq {b : List Int} (h : b.all byteB = true) (a : Int) : octets_U8.f b a = some (fieldP b a 1) := by
  unfold octets_U8.f octets_field.f fieldP
  rw [if_pos ⟨h, by omega, by omega⟩]
  split <;> rfl
theorem u16_eq {b : List Int} (h : b.all byteB = true) (a : Int) : octets_U16.f b a = some (fieldP b a 2) := by
  unfold octets_U16.f octets_field.f fieldP
  rw [if_pos ⟨h, by omega, by omega⟩]
  split <;> rfl
theorem i16_eq {b : List Int} (h : b.all byteB = true) (a : Int) : octets_I16.f b a = some (i16P b a) := by
  have := u16_eq h a
  unfold octets_U16.f at this
  unfold octets_I16.f i16P
  rw [this]; rfl
theorem fieldP_range {b : List Int} (h : b.all byteB = true) (a : Int) {n : Int} (hn : n = 1 ∨ n = 2) : 0 ≤ (fieldP b a n).1 ∧ (fieldP b a n).1 < 65536 ∧ (n = 1 → (fieldP b a n).1 < 256) := by
  unfold fieldP
  split
  · simp
  · have h1 := numBE_range ((b.drop a.toNat).take n.toNat) (by rw [List.all_eq_true] at h ⊢; exact fun x hx => h x (List.mem_of_mem_drop (List.mem_of_mem_take hx)))
    have h2 : ((b.drop a.toNat).take n.toNat).length ≤ n.toNat := by rw [List.length_take]; exact Nat.min_le_left _ _
    generalize ((b.drop a.toNat).take n.toNat) = l at h1 h2
    simp only
    rcases hn with rfl | rfl
    · have h3 : (256 : Int) ^ l.length ≤ 256 := by
        rcases (show l.length = 0 ∨ l.length = 1 by simp at h2; omega) with e | e <;> rw [e] <;> decide
      omega
    · have h3 : (256 : Int) ^ l.length ≤ 65536 := by
        rcases (show l.length = 0 ∨ l.length = 1 ∨ l.length = 2 by simp at h2; omega) with e | e | e <;> rw [e] <;> decide
      omega
theorem i16P_range {b : List Int} (h : b.all byteB = true) (a : Int) : -32768 ≤ (i16P b a).1 ∧ (i16P b a).1 ≤ 32767 := by
  have := fieldP_range h a (n := 2) (.inr rfl)
  unfold i16P sg
  simp only
  split <;> omega

/-! ### coordinates -/
def dP (b : List Int) (at_ f sh so : Int) : Int × Int :=
  if Go.bits .and .i64 f so = so then ((fieldP b at_ 1).1, at_ + 1) else if Go.bits .and .i64 f so = sh then (-(fieldP b at_ 1).1, at_ + 1) else if Go.bits .and .i64 f so = 0 then ((i16P b at_).1, at_ + 2) else (0, at_)
def coordP (b : List Int) (sh so : Int) : List Int → Int → Int → List Int × Int
  | [], a, _ => ([], a)
  | f :: r, a, x => ((x + (dP b a f sh so).1) :: (coordP b sh so r (dP b a f sh so).2 (x + (dP b a f sh so).1)).1, (coordP b sh so r (dP b a f sh so).2 (x + (dP b a f sh so).1)).2)
theorem coordP_len (b : List Int) (sh so : Int) : ∀ (l : List Int) (a x : Int), (coordP b sh so l a x).1.length = l.length
  | [], _, _ => rfl
  | f :: r, a, x => by rw [coordP, List.length_cons, coordP_len b sh so r, List.length_cons]
theorem coordP_at (b : List Int) (sh so : Int) : ∀ (l : List Int) (a x : Int), a ≤ (coordP b sh so l a x).2 ∧ (coordP b sh so l a x).2 ≤ a + 2 * l.length
  | [], _, _ => by simp [coordP]
  | f :: r, a, x => by
    have h := coordP_at b sh so r (dP b a f sh so).2 (x + (dP b a f sh so).1)
    have h2 : a ≤ (dP b a f sh so).2 ∧ (dP b a f sh so).2 ≤ a + 2 := by
      unfold dP
      split
      · simp only; omega
      · split
        · simp only; omega
        · split <;> simp only <;> omega
    rw [coordP, List.length_cons]
    simp only
    omega
theorem dP_range {b : List Int} (h : b.all byteB = true) (a f sh so : Int) : -65536 ≤ (dP b a f sh so).1 ∧ (dP b a f sh so).1 ≤ 65536 := by
  have h1 := fieldP_range h a (n := 1) (.inl rfl)
  have h2 := i16P_range h a
  unfold dP
  split
  · simp only; omega
  · split
    · simp only; omega
    · split <;> simp only <;> omega
theorem coord_ev {b : List Int} (hb : b.all byteB = true) (fl : List Int) (hl : fl.length ≤ 1000) (sh sa so : Int) (hs : (sh = 2 ∧ sa = 16 ∧ so = 18) ∨ (sh = 4 ∧ sa = 32 ∧ so = 36)) (a : Int) (h0 : 0 ≤ a) (h1 : a ≤ 1000000) :
    Ev (fun k => outline_coordinates.f k b a fl sh sa) (coordP b sh so fl a 0) := by
  have hor : Go.bits .or .i64 sh sa = so := by rcases hs with ⟨rfl, rfl, rfl⟩ | ⟨rfl, rfl, rfl⟩ <;> decide
  have H : ∀ d i : Nat, i + d = fl.length → ∀ (acc : List Int) (a x : Int), acc.length = i → 0 ≤ a → a ≤ 1000000 + 2 * i → -100000 * (i : Int) ≤ x → x ≤ 100000 * (i : Int) →
      Ev (fun k => outline_coordinates.l0 k b a sh sa acc x fl (fl.length : Int) (i : Int)) (acc ++ (coordP b sh so (fl.drop i) a x).1, (coordP b sh so (fl.drop i) a x).2) := by
    intro d
    induction d with
    | zero =>
      intro i hi acc a x hac h0 h1 hx0 hx1
      rw [List.drop_of_length_le (by omega)]
      exact Ev.step (fun k => by rw [outline_coordinates.l0, if_neg (by omega)]) (by rw [coordP, List.append_nil]; exact Ev.now _)
    | succ d ih =>
      intro i hi acc a x hac h0 h1 hx0 hx1
      have hlt : i < fl.length := by omega
      have hr : rd fl (i : Int) = fl[i] := by simp [rd, hlt]
      rw [List.drop_eq_getElem_cons hlt, coordP]
      simp only
      generalize fl[i] = f at hr
      have hd := dP_range hb a f sh so
      have hat : a ≤ (dP b a f sh so).2 ∧ (dP b a f sh so).2 ≤ a + 2 := by
        unfold dP
        split
        · simp only; omega
        · split
          · simp only; omega
          · split <;> simp only <;> omega
      have hn := ih (i + 1) (by omega) (acc ++ [x + (dP b a f sh so).1]) (dP b a f sh so).2 (x + (dP b a f sh so).1) (by simp [hac]) (by omega) (by omega) (by omega) (by omega)
      rw [List.append_assoc, List.singleton_append] at hn
      have W1 := Aside0.mk (show wrap64 (a + 1) = a + 1 by unfold wrap64; omega)
      have W2 := Aside0.mk (show wrap64 (a + 2) = a + 2 by unfold wrap64; omega)
      have W3 := Aside0.mk (show ∀ d : Int, -65536 ≤ d → d ≤ 65536 → wrap64 (x + d) = x + d from fun d h0 h1 => by unfold wrap64; omega)
      have W4 := Aside0.mk (show wrap64 (-(fieldP b a 1).1) = -(fieldP b a 1).1 by have := fieldP_range hb a (n := 1) (.inl rfl); unfold wrap64; omega)
      have hu := fieldP_range hb a (n := 1) (.inl rfl)
      have hi16 := i16P_range hb a
      by_cases c1 : Go.bits .and .i64 f so = so
      · have e : dP b a f sh so = ((fieldP b a 1).1, a + 1) := by unfold dP; rw [if_pos c1]
        rw [e] at hn ⊢
        exact Ev.step (fun k => by rw [outline_coordinates.l0, if_pos (by omega), if_pos (by omega), if_pos (by omega), hr, hor, if_pos c1, u8_eq hb, Option.bind_some, if_pos (by omega), W1.out, W3.out _ (by omega) (by omega), wnat (by omega)]) hn
      · by_cases c2 : Go.bits .and .i64 f so = sh
        · have e : dP b a f sh so = (-(fieldP b a 1).1, a + 1) := by unfold dP; rw [if_neg c1, if_pos c2]
          rw [e] at hn ⊢
          exact Ev.step (fun k => by rw [outline_coordinates.l0, if_pos (by omega), if_pos (by omega), if_pos (by omega), hr, hor, if_neg c1, if_pos c2, u8_eq hb, Option.bind_some, if_pos (by omega), W1.out, W4.out, W3.out _ (by omega) (by omega), wnat (by omega)]) hn
        · by_cases c3 : Go.bits .and .i64 f so = 0
          · have e : dP b a f sh so = ((i16P b a).1, a + 2) := by unfold dP; rw [if_neg c1, if_neg c2, if_pos c3]
            rw [e] at hn ⊢
            exact Ev.step (fun k => by rw [outline_coordinates.l0, if_pos (by omega), if_pos (by omega), if_pos (by omega), hr, hor, if_neg c1, if_neg c2, if_pos c3, i16_eq hb, Option.bind_some, if_pos (by omega), W2.out, W3.out _ (by omega) (by omega), wnat (by omega)]) hn
          · have e : dP b a f sh so = (0, a) := by unfold dP; rw [if_neg c1, if_neg c2, if_neg c3]
            rw [e] at hn ⊢
            exact Ev.step (fun k => by rw [outline_coordinates.l0, if_pos (by omega), if_pos (by omega), if_pos (by omega), hr, hor, if_neg c1, if_neg c2, if_neg c3, if_pos (by omega), W3.out _ (by omega) (by omega), wnat (by omega)]) hn
  unfold outline_coordinates.f
  have := H fl.length 0 (by omega) [] a 0 rfl h0 (by omega) (by omega) (by omega)
  rw [List.drop_zero, List.nil_append] at this
  exact this

/-! ### contours out of points -/
def ptP (fl xs ys : List Int) (i : Nat) : Pt := ⟨rd xs (i : Int), rd ys (i : Int), (Go.bits .and .i64 (rd fl (i : Int)) 1) != 0⟩
def seg (fl xs ys : List Int) (i n : Nat) : List Pt := (List.range' i n).map (ptP fl xs ys)
def segs (fl xs ys : List Int) : Nat → List Int → List (List Pt)
  | _, [] => []
  | i, e :: r => seg fl xs ys i (e.toNat + 1 - i) :: segs fl xs ys (e.toNat + 1) r
theorem l4_ev (fl xs ys : List Int) (N : Nat) (hN : N ≤ 1000) (h1 : fl.length = N) (h2 : xs.length = N) (h3 : ys.length = N) (e : Nat) (he : e < N) (ends : List Int) (j : Int) (acc : List (List Pt)) (R : List (List Pt) × List Pr) (c0 : List Pt)
    (hac : acc.length ≤ 1000) (hc0 : c0 = []) (i0 : Nat)
    (h : Ev (fun k => outline_contours.l3 k fl xs ys ((e + 1 : Nat) : Int) ends (ends.length : Int) (wrap64 (j + 1)) (acc ++ [seg fl xs ys i0 (e + 1 - i0)])) R) :
    ∀ d i : Nat, (i + d = e + 1 ∨ (d = 0 ∧ e + 1 ≤ i)) → ∀ c : List Pt, c.length ≤ i → c ++ seg fl xs ys i (e + 1 - i) = seg fl xs ys i0 (e + 1 - i0) → Ev (fun k => outline_contours.l4 k fl xs ys (e : Int) c (i : Int) ends (ends.length : Int) j acc) R := by
  intro d
  induction d with
  | zero =>
    intro i hi c hcl hc
    rw [show e + 1 - i = 0 by omega, show seg fl xs ys i 0 = [] from rfl, List.append_nil] at hc
    subst hc
    exact Ev.step (fun k => by rw [outline_contours.l4, if_neg (by omega), if_pos (by omega), wnat (by omega)]) h
  | succ d ih =>
    intro i hi c hcl hc
    have hn := ih (i + 1) (by omega) (c ++ [ptP fl xs ys i]) (by simp; omega) (by
      rw [← hc, show e + 1 - i = (e + 1 - (i + 1)) + 1 by omega]
      simp [seg, List.range'_succ])
    exact Ev.step (fun k => by rw [outline_contours.l4, if_pos (by omega), if_pos (by omega), if_pos (by omega), if_pos (by omega), if_pos (by omega), if_pos (by omega), wnat (by omega)]; rfl) hn
theorem l3_ev (fl xs ys : List Int) (N : Nat) (hN : N ≤ 1000) (h1 : fl.length = N) (h2 : xs.length = N) (h3 : ys.length = N) (ends : List Int) (hl : ends.length ≤ 1000) (he : ∀ e ∈ ends, 0 ≤ e ∧ e < (N : Int)) :
    ∀ d j : Nat, j + d = ends.length → ∀ (i : Nat) (acc : List (List Pt)), acc.length = j → i ≤ 2000 → Ev (fun k => outline_contours.l3 k fl xs ys (i : Int) ends (ends.length : Int) (j : Int) acc) (acc ++ segs fl xs ys i (ends.drop j), []) := by
  intro d
  induction d with
  | zero =>
    intro j hj i acc hac hi
    rw [List.drop_of_length_le (by omega), segs, List.append_nil]
    exact Ev.step (fun k => by rw [outline_contours.l3, if_neg (by omega)]) (Ev.now _)
  | succ d ih =>
    intro j hj i acc hac hi
    have hlt : j < ends.length := by omega
    have hr : rd ends (j : Int) = ends[j] := by simp [rd, hlt]
    obtain ⟨h4, h5⟩ := he ends[j] (List.getElem_mem hlt)
    rw [List.drop_eq_getElem_cons hlt, segs]
    obtain ⟨e, hee⟩ : ∃ e : Nat, ends[j] = (e : Int) := ⟨ends[j].toNat, by omega⟩
    rw [hee] at hr h4 h5 ⊢
    rw [Int.toNat_natCast]
    have hn := ih (j + 1) (by omega) (e + 1) (acc ++ [seg fl xs ys i (e + 1 - i)]) (by simp [hac]) (by omega)
    rw [List.append_assoc, List.singleton_append] at hn
    refine Ev.step (fun k => by rw [outline_contours.l3, if_pos (by omega), if_pos (by omega), if_pos (by omega), hr]) ?_
    by_cases hie : i ≤ e + 1
    · exact l4_ev fl xs ys N hN h1 h2 h3 e (by omega) ends (j : Int) acc _ [] (by omega) rfl i (by rw [wnat (by omega)]; exact hn) (e + 1 - i) i (.inl (by omega)) [] (by simp) (by simp)
    · exact l4_ev fl xs ys N hN h1 h2 h3 e (by omega) ends (j : Int) acc _ [] (by omega) rfl i (by rw [wnat (by omega)]; exact hn) 0 i (.inr ⟨rfl, by omega⟩) [] (by simp) (by simp)
theorem segs_len (fl xs ys : List Int) : ∀ (l : List Int) (i : Nat), (∀ e ∈ l, e < 1000) → ∀ c ∈ segs fl xs ys i l, c.length ≤ 1000
  | [], _, _, c, hc => by simp [segs] at hc
  | e :: r, i, h, c, hc => by
    rw [segs] at hc
    rcases List.mem_cons.1 hc with rfl | hc
    · have := h e (by simp)
      simp [seg]; omega
    · exact segs_len fl xs ys r _ (fun e he => h e (by simp [he])) c hc
/-- All flags read: the rest of the reading. -/
def restP (b : List Int) (ends fl : List Int) (a : Int) : List (List Pt) × List Pr := (segs fl (coordP b 2 18 fl a 0).1 (coordP b 4 36 fl (coordP b 2 18 fl a 0).2 0).1 0 ends, [])
theorem rest_ev {b : List Int} (hb : b.all byteB = true) (ends fl : List Int) (pts : Nat) (hp : pts ≤ 80) (hfl : fl.length = pts) (hl : ends.length ≤ 100) (he : ∀ e ∈ ends, 0 ≤ e ∧ e < (pts : Int)) (a : Int) (h0 : 0 ≤ a) (h1 : a ≤ 100000) :
    Ev (fun k => outline_contours.l1 k b ends (pts : Int) a fl) (restP b ends fl a) := by
  have hx := coordP_at b 2 18 fl a 0
  refine Ev.step (fun k => by rw [outline_contours.l1, if_neg (by omega)]) ?_
  refine Ev.bind (coord_ev hb fl (by omega) 2 16 18 (.inl ⟨rfl, rfl, rfl⟩) a h0 (by omega)) ?_
  refine Ev.bind (coord_ev hb fl (by omega) 4 32 36 (.inr ⟨rfl, rfl, rfl⟩) _ (by omega) (by omega)) ?_
  have := l3_ev fl (coordP b 2 18 fl a 0).1 (coordP b 4 36 fl (coordP b 2 18 fl a 0).2 0).1 pts (by omega) hfl (by rw [coordP_len, hfl]) (by rw [coordP_len, hfl]) ends (by omega) he ends.length 0 (by omega) 0 [] rfl (by omega)
  rw [List.drop_zero, List.nil_append] at this
  exact this
theorem l2_ev (b : List Int) (ends : List Int) (pts : Int) (a f : Int) (c : Nat) (hc : c ≤ 1000) (R : List (List Pt) × List Pr) : ∀ d i : Nat, i + d = c → ∀ acc : List Int, acc.length ≤ 1000 + i →
    Ev (fun k => outline_contours.l1 k b ends pts a (acc ++ List.replicate d f)) R → Ev (fun k => outline_contours.l2 k b ends pts a acc f (c : Int) (i : Int)) R := by
  intro d
  induction d with
  | zero =>
    intro i hi acc hac h
    rw [List.replicate_zero, List.append_nil] at h
    exact Ev.step (fun k => by rw [outline_contours.l2, if_neg (by omega)]) h
  | succ d ih =>
    intro i hi acc hac h
    have hn := ih (i + 1) (by omega) (acc ++ [f]) (by simp; omega) (by rw [List.append_assoc, List.singleton_append, ← List.replicate_succ]; exact h)
    exact Ev.step (fun k => by rw [outline_contours.l2, if_pos (by omega), if_pos (by omega), wnat (by omega)]) hn
/-- One flag read, with its repeats. -/
def stepC (b : List Int) (a : Int) : Nat := if Go.bits .and .i64 (fieldP b a 1).1 8 = 0 then 1 else 1 + (fieldP b (a + 1) 1).1.toNat
def stepA (b : List Int) (a : Int) : Int := if Go.bits .and .i64 (fieldP b a 1).1 8 = 0 then a + 1 else a + 2
theorem l1_bad {b : List Int} (hb : b.all byteB = true) (ends acc : List Int) (pts : Nat) (a : Int) (h0 : 0 ≤ a) (h1 : a ≤ 1000000) (hlt : acc.length < pts) (hno : (fieldP b a 1).2 = false) : Ev (fun k => outline_contours.l1 k b ends (pts : Int) a acc) ([], []) := by
  have W1 := Aside0.mk (show wrap64 (a + 1) = a + 1 by unfold wrap64; omega)
  refine Ev.step (fun k => by rw [outline_contours.l1, if_pos (by omega), u8_eq hb, Option.bind_some, W1.out, u8_eq hb, Option.bind_some, hno]) ?_
  split
  · exact Ev.step (fun k => by rw [outline_contours.j2, if_neg (by decide)]) (Ev.now _)
  · exact Ev.step (fun k => by rw [outline_contours.j2, if_neg (by decide)]) (Ev.now _)
theorem l1_step {b : List Int} (hb : b.all byteB = true) (ends acc : List Int) (pts : Nat) (hp : pts ≤ 80) (a : Int) (h0 : 0 ≤ a) (h1 : a ≤ 1000000) (hlt : acc.length < pts) (hyes : (fieldP b a 1).2 = true) (R : List (List Pt) × List Pr)
    (h : Ev (fun k => outline_contours.l1 k b ends (pts : Int) (stepA b a) (acc ++ List.replicate (min (stepC b a) (pts - acc.length)) (fieldP b a 1).1)) R) : Ev (fun k => outline_contours.l1 k b ends (pts : Int) a acc) R := by
  have W1 := Aside0.mk (show wrap64 (a + 1) = a + 1 by unfold wrap64; omega)
  have W2 := Aside0.mk (show wrap64 (a + 1 + 1) = a + 2 by unfold wrap64; omega)
  have W3 := Aside0.mk (show wrap64 ((pts : Int) - (acc.length : Int)) = ((pts - acc.length : Nat) : Int) by unfold wrap64; omega)
  have hr := fieldP_range hb (a + 1) (n := 1) (.inl rfl)
  have W4 := Aside0.mk (show wrap64 (1 + (fieldP b (a + 1) 1).1) = ((1 + (fieldP b (a + 1) 1).1.toNat : Nat) : Int) by unfold wrap64; omega)
  refine Ev.step (fun k => by rw [outline_contours.l1, if_pos (by omega), u8_eq hb, Option.bind_some, W1.out, u8_eq hb, Option.bind_some, W2.out, W4.out, hyes]) ?_
  have fin (c : Nat) (a' : Int) (h : Ev (fun k => outline_contours.l1 k b ends (pts : Int) a' (acc ++ List.replicate (min c (pts - acc.length)) (fieldP b a 1).1)) R) : Ev (fun k => outline_contours.j2 k b ends (pts : Int) a' acc (fieldP b a 1).1 true (c : Int)) R := by
    have hm : mn (c : Int) ((pts - acc.length : Nat) : Int) = ((min c (pts - acc.length) : Nat) : Int) := by unfold mn; omega
    refine Ev.step (fun k => by rw [outline_contours.j2, if_pos rfl, W3.out, hm]) ?_
    exact l2_ev b ends (pts : Int) a' _ (min c (pts - acc.length)) (by omega) R (min c (pts - acc.length)) 0 (by omega) acc (by omega) h
  unfold stepC stepA at h
  split
  · rename_i h8
    rw [if_pos h8, if_pos h8] at h
    exact fin 1 (a + 1) h
  · rename_i h8
    rw [if_neg h8, if_neg h8] at h
    exact fin _ (a + 2) h
end Go.Proofs.Ytmppdgjnibamlab.Pag
