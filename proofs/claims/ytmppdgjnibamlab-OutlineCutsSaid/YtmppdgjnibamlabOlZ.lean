/- outline's readers: what they read of bytes, step by step. Plain. -/
import Derived.Test.YtmppdgjnibamlabPOlx7
import Derived.Test.YtmppdgjnibamlabPOlx8
import Derived.Test.YtmppdgjnibamlabOlB
import Derived.Test.YtmppdgjnibamlabPOlx10
namespace Go.Proofs.Ytmppdgjnibamlab.Pag
open Go.RowKit Go.Proofs.Ytmppdgjnibamlab.POl Go.Proofs.YtmppdgjnibamlabW.PrintWords
set_option linter.unusedVariables false
set_option linter.unusedSimpArgs false

def fieldP (b : List Int) (a n : Int) : Int × Bool := if a < 0 ∨ a > (b.length : Int) - n then (0, false) else (numBE ((b.drop a.toNat).take n.toNat), true)
def i16P (b : List Int) (a : Int) : Int × Bool := sg 32768 (fieldP b a 2)
theorem u8_eq {b : List Int} (h : b.all byteB = true) (a : Int) : octets_U8.f b a = some (fieldP b a 1) := by
  unfold octets_U8.f octets_field.f fieldP
  rw [if_pos ⟨h, by omega, by omega⟩]
  split <;> rfl
theorem u16_eq {b : List Int} (h : b.all byteB = true) (a : Int) : octets_U16.f b a = some (fieldP b a 2) := by
  unfold octets_U16.f octets_field.f fieldP
  rw [if_pos ⟨h, by omega, by omega⟩]
  split <;> rfl
theorem i16_eq {b : List Int} (h : b.all byteB = true) (a : Int) : octets_I16.f b a = some (i16P b a) := by
  have := u16_eq h a
  unfold octets_U16.f at this
  unfold octets_I16.f i16P
  rw [this]; rfl
theorem fieldP_range {b : List Int} (h : b.all byteB = true) (a : Int) {n : Int} (hn : n = 1 ∨ n = 2) : 0 ≤ (fieldP b a n).1 ∧ (fieldP b a n).1 < 65536 ∧ (n = 1 → (fieldP b a n).1 < 256) := by
  unfold fieldP
  split
  · simp
  · have h1 := numBE_range ((b.drop a.toNat).take n.toNat) (by rw [List.all_eq_true] at h ⊢; exact fun x hx => h x (List.mem_of_mem_drop (List.mem_of_mem_take hx)))
    have h2 : ((b.drop a.toNat).take n.toNat).length ≤ n.toNat := by rw [List.length_take]; exact Nat.min_le_left _ _
    generalize ((b.drop a.toNat).take n.toNat) = l at h1 h2
    simp only
    rcases hn with rfl | rfl
    · have h3 : (256 : Int) ^ l.length ≤ 256 := by
        rcases (show l.length = 0 ∨ l.length = 1 by simp at h2; omega) with e | e <;> rw [e] <;> decide
      omega
    · have h3 : (256 : Int) ^ l.length ≤ 65536 := by
        rcases (show l.length = 0 ∨ l.length = 1 ∨ l.length = 2 by simp at h2; omega) with e | e | e <;> rw [e] <;> decide
      omega
theorem i16P_range {b : List Int} (h : b.all byteB = true) (a : Int) : -32768 ≤ (i16P b a).1 ∧ (i16P b a).1 ≤ 32767 := by
  have := fieldP_range h a (n := 2) (.inr rfl)
  unfold i16P sg
  simp only
  split <;> omega

/-! ### coordinates -/
def dP (b : List Int) (at_ f sh so : Int) : Int × Int :=
  if Go.bits .and .i64 f so = so then ((fieldP b at_ 1).1, at_ + 1) else if Go.bits .and .i64 f so = sh then (-(fieldP b at_ 1).1, at_ + 1) else if Go.bits .and .i64 f so = 0 then ((i16P b at_).1, at_ + 2) else (0, at_)
def coordP (b : List Int) (sh so : Int) : List Int → Int → Int → List Int × Int
  | [], a, _ => ([], a)
  | f :: r, a, x => ((x + (dP b a f sh so).1) :: (coordP b sh so r (dP b a f sh so).2 (x + (dP b a f sh so).1)).1, (coordP b sh so r (dP b a f sh so).2 (x + (dP b a f sh so).1)).2)
theorem coordP_len (b : List Int) (sh so : Int) : ∀ (l : List Int) (a x : Int), (coordP b sh so l a x).1.length = l.length
  | [], _, _ => rfl
  | f :: r, a, x => by rw [coordP, List.length_cons, coordP_len b sh so r, List.length_cons]
theorem coordP_at (b : List Int) (sh so : Int) : ∀ (l : List Int) (a x : Int), a ≤ (coordP b sh so l a x).2 ∧ (coordP b sh so l a x).2 ≤ a + 2 * l.length
  | [], _, _ => by simp [coordP]
  | f :: r, a, x => by
    have h := coordP_at b sh so r (dP b a f sh so).2 (x + (dP b a f sh so).1)
    have h2 : a ≤ (dP b a f sh so).2 ∧ (dP b a f sh so).2 ≤ a + 2 := by
      unfold dP
      split
      · simp only; omega
      · split
        · simp only; omega
        · split <;> simp only <;> omega
    rw [coordP, List.length_cons]
    simp only
    omega
theorem dP_range {b : List Int} (h : b.all byteB = true) (a f sh so : Int) : -65536 ≤ (dP b a f sh so).1 ∧ (dP b a f sh so).1 ≤ 65536 := by
  have h1 := fieldP_range h a (n := 1) (.inl rfl)
  have h2 := i16P_range h a
  unfold dP
  split
  · simp only; omega
  · split
    · simp only; omega
    · split <;> simp only <;> omega
theorem coord_ev {b : List Int} (hb : b.all byteB = true) (fl : List Int) (hl : fl.length ≤ 1000) (sh sa so : Int) (hs : (sh = 2 ∧ sa = 16 ∧ so = 18) ∨ (sh = 4 ∧ sa = 32 ∧ so = 36)) (a : Int) (h0 : 0 ≤ a) (h1 : a ≤ 1000000) :
    Ev (fun k => outline_coordinates.f k b a fl sh sa) (coordP b sh so fl a 0) := by
  have hor : Go.bits .or .i64 sh sa = so := by rcases hs with ⟨rfl, rfl, rfl⟩ | ⟨rfl, rfl, rfl⟩ <;> decide
  have H : ∀ d i : Nat, i + d = fl.length → ∀ (acc : List Int) (a x : Int), acc.length = i → 0 ≤ a → a ≤ 1000000 + 2 * i → -100000 * (i : Int) ≤ x → x ≤ 100000 * (i : Int) →
      Ev (fun k => outline_coordinates.l0 k b a sh sa acc x fl (fl.length : Int) (i : Int)) (acc ++ (coordP b sh so (fl.drop i) a x).1, (coordP b sh so (fl.drop i) a x).2) := by
    intro d
    induction d with
    | zero =>
      intro i hi acc a x hac h0 h1 hx0 hx1
      rw [List.drop_of_length_le (by omega)]
      exact Ev.step (fun k => by rw [outline_coordinates.l0, if_neg (by omega)]) (by rw [coordP, List.append_nil]; exact Ev.now _)
    | succ d ih =>
      intro i hi acc a x hac h0 h1 hx0 hx1
      have hlt : i < fl.length := by omega
      have hr : rd fl (i : Int) = fl[i] := by simp [rd, hlt]
      rw [List.drop_eq_getElem_cons hlt, coordP]
      simp only
      generalize fl[i] = f at hr
      have hd := dP_range hb a f sh so
      have hat : a ≤ (dP b a f sh so).2 ∧ (dP b a f sh so).2 ≤ a + 2 := by
        unfold dP
        split
        · simp only; omega
        · split
          · simp only; omega
          · split <;> simp only <;> omega
      have hn := ih (i + 1) (by omega) (acc ++ [x + (dP b a f sh so).1]) (dP b a f sh so).2 (x + (dP b a f sh so).1) (by simp [hac]) (by omega) (by omega) (by omega) (by omega)
      rw [List.append_assoc, List.singleton_append] at hn
      have W1 := Aside0.mk (show wrap64 (a + 1) = a + 1 by unfold wrap64; omega)
      have W2 := Aside0.mk (show wrap64 (a + 2) = a + 2 by unfold wrap64; omega)
      have W3 := Aside0.mk (show ∀ d : Int, -65536 ≤ d → d ≤ 65536 → wrap64 (x + d) = x + d from fun d h0 h1 => by unfold wrap64; omega)
      have W4 := Aside0.mk (show wrap64 (-(fieldP b a 1).1) = -(fieldP b a 1).1 by have := fieldP_range hb a (n := 1) (.inl rfl); unfold wrap64; omega)
      have hu := fieldP_range hb a (n := 1) (.inl rfl)
      have hi16 := i16P_range hb a
      by_cases c1 : Go.bits .and .i64 f so = so
      · have e : dP b a f sh so = ((fieldP b a 1).1, a + 1) := by unfold dP; rw [if_pos c1]
        rw [e] at hn ⊢
        exact Ev.step (fun k => by rw [outline_coordinates.l0, if_pos (by omega), if_pos (by omega), if_pos (by omega), hr, hor, if_pos c1, u8_eq hb, Option.bind_some, if_pos (by omega), W1.out, W3.out _ (by omega) (by omega), wnat (by omega)]) hn
      · by_cases c2 : Go.bits .and .i64 f so = sh
        · have e : dP b a f sh so = (-(fieldP b a 1).1, a + 1) := by unfold dP; rw [if_neg c1, if_pos c2]
          rw [e] at hn ⊢
          exact Ev.step (fun k => by rw [outline_coordinates.l0, if_pos (by omega), if_pos (by omega), if_pos (by omega), hr, hor, if_neg c1, if_pos c2, u8_eq hb, Option.bind_some, if_pos (by omega), W1.out, W4.out, W3.out _ (by omega) (by omega), wnat (by omega)]) hn
        · by_cases c3 : Go.bits .and .i64 f so = 0
          · have e : dP b a f sh so = ((i16P b a).1, a + 2) := by unfold dP; rw [if_neg c1, if_neg c2, if_pos c3]
            rw [e] at hn ⊢
            exact Ev.step (fun k => by rw [outline_coordinates.l0, if_pos (by omega), if_pos (by omega), if_pos (by omega), hr, hor, if_neg c1, if_neg c2, if_pos c3, i16_eq hb, Option.bind_some, if_pos (by omega), W2.out, W3.out _ (by omega) (by omega), wnat (by omega)]) hn
          · have e : dP b a f sh so = (0, a) := by unfold dP; rw [if_neg c1, if_neg c2, if_neg c3]
            rw [e] at hn ⊢
            exact Ev.step (fun k => by rw [outline_coordinates.l0, if_pos (by omega), if_pos (by omega), if_pos (by omega), hr, hor, if_neg c1, if_neg c2, if_neg c3, if_pos (by omega), W3.out _ (by omega) (by omega), wnat (by omega)]) hn
  unfold outline_coordinates.f
  have := H fl.length 0 (by omega) [] a 0 rfl h0 (by omega) (by omega) (by omega)
  rw [List.drop_zero, List.nil_append] at this
  exact this

/-! ### contours out of points -/
def ptP (fl xs ys : List Int) (i : Nat) : Pt := ⟨rd xs (i : Int), rd ys (i : Int), (Go.bits .and .i64 (rd fl (i : Int)) 1) != 0⟩
def seg (fl xs ys : List Int) (i n : Nat) : List Pt := (List.range' i n).map (ptP fl xs ys)
def segs (fl xs ys : List Int) : Nat → List Int → List (List Pt)
  | _, [] => []
  | i, e :: r => seg fl xs ys i (e.toNat + 1 - i) :: segs fl xs ys (e.toNat + 1) r
theorem l4_ev (fl xs ys : List Int) (N : Nat) (hN : N ≤ 1000) (h1 : fl.length = N) (h2 : xs.length = N) (h3 : ys.length = N) (e : Nat) (he : e < N) (ends : List Int) (j : Int) (acc : List (List Pt)) (R : List (List Pt) × List Pr) (c0 : List Pt)
    (hac : acc.length ≤ 1000) (hc0 : c0 = []) (i0 : Nat)
    (h : Ev (fun k => outline_contours.l3 k fl xs ys ((e + 1 : Nat) : Int) ends (ends.length : Int) (wrap64 (j + 1)) (acc ++ [seg fl xs ys i0 (e + 1 - i0)])) R) :
    ∀ d i : Nat, (i + d = e + 1 ∨ (d = 0 ∧ e + 1 ≤ i)) → ∀ c : List Pt, c.length ≤ i → c ++ seg fl xs ys i (e + 1 - i) = seg fl xs ys i0 (e + 1 - i0) → Ev (fun k => outline_contours.l4 k fl xs ys (e : Int) c (i : Int) ends (ends.length : Int) j acc) R := by
  intro d
  induction d with
  | zero =>
    intro i hi c hcl hc
    rw [show e + 1 - i = 0 by omega, show seg fl xs ys i 0 = [] from rfl, List.append_nil] at hc
    subst hc
    exact Ev.step (fun k => by rw [outline_contours.l4, if_neg (by omega), if_pos (by omega), wnat (by omega)]) h
  | succ d ih =>
    intro i hi c hcl hc
    have hn := ih (i + 1) (by omega) (c ++ [ptP fl xs ys i]) (by simp; omega) (by
      rw [← hc, show e + 1 - i = (e + 1 - (i + 1)) + 1 by omega]
      simp [seg, List.range'_succ])
    exact Ev.step (fun k => by rw [outline_contours.l4, if_pos (by omega), if_pos (by omega), if_pos (by omega), if_pos (by omega), if_pos (by omega), if_pos (by omega), wnat (by omega)]; rfl) hn
theorem l3_ev (fl xs ys : List Int) (N : Nat) (hN : N ≤ 1000) (h1 : fl.length = N) (h2 : xs.length = N) (h3 : ys.length = N) (ends : List Int) (hl : ends.length ≤ 1000) (he : ∀ e ∈ ends, 0 ≤ e ∧ e < (N : Int)) :
    ∀ d j : Nat, j + d = ends.length → ∀ (i : Nat) (acc : List (List Pt)), acc.length = j → i ≤ 2000 → Ev (fun k => outline_contours.l3 k fl xs ys (i : Int) ends (ends.length : Int) (j : Int) acc) (acc ++ segs fl xs ys i (ends.drop j), []) := by
  intro d
  induction d with
  | zero =>
    intro j hj i acc hac hi
    rw [List.drop_of_length_le (by omega), segs, List.append_nil]
    exact Ev.step (fun k => by rw [outline_contours.l3, if_neg (by omega)]) (Ev.now _)
  | succ d ih =>
    intro j hj i acc hac hi
    have hlt : j < ends.length := by omega
    have hr : rd ends (j : Int) = ends[j] := by simp [rd, hlt]
    obtain ⟨h4, h5⟩ := he ends[j] (List.getElem_mem hlt)
    rw [List.drop_eq_getElem_cons hlt, segs]
    obtain ⟨e, hee⟩ : ∃ e : Nat, ends[j] = (e : Int) := ⟨ends[j].toNat, by omega⟩
    rw [hee] at hr h4 h5 ⊢
    rw [Int.toNat_natCast]
    have hn := ih (j + 1) (by omega) (e + 1) (acc ++ [seg fl xs ys i (e + 1 - i)]) (by simp [hac]) (by omega)
    rw [List.append_assoc, List.singleton_append] at hn
    refine Ev.step (fun k => by rw [outline_contours.l3, if_pos (by omega), if_pos (by omega), if_pos (by omega), hr]) ?_
    by_cases hie : i ≤ e + 1
    · exact l4_ev fl xs ys N hN h1 h2 h3 e (by omega) ends (j : Int) acc _ [] (by omega) rfl i (by rw [wnat (by omega)]; exact hn) (e + 1 - i) i (.inl (by omega)) [] (by simp) (by simp)
    · exact l4_ev fl xs ys N hN h1 h2 h3 e (by omega) ends (j : Int) acc _ [] (by omega) rfl i (by rw [wnat (by omega)]; exact hn) 0 i (.inr ⟨rfl, by omega⟩) [] (by simp) (by simp)
theorem segs_len (fl xs ys : List Int) : ∀ (l : List Int) (i : Nat), (∀ e ∈ l, e < 1000) → ∀ c ∈ segs fl xs ys i l, c.length ≤ 1000
  | [], _, _, c, hc => by simp [segs] at hc
  | e :: r, i, h, c, hc => by
    rw [segs] at hc
    rcases List.mem_cons.1 hc with rfl | hc
    · have := h e (by simp)
      simp [seg]; omega
    · exact segs_len fl xs ys r _ (fun e he => h e (by simp [he])) c hc
/-- All flags read: the rest of the reading. -/
def restP (b : List Int) (ends fl : List Int) (a : Int) : List (List Pt) × List Pr := (segs fl (coordP b 2 18 fl a 0).1 (coordP b 4 36 fl (coordP b 2 18 fl a 0).2 0).1 0 ends, [])
theorem rest_ev {b : List Int} (hb : b.all byteB = true) (ends fl : List Int) (pts : Nat) (hp : pts ≤ 80) (hfl : fl.length = pts) (hl : ends.length ≤ 100) (he : ∀ e ∈ ends, 0 ≤ e ∧ e < (pts : Int)) (a : Int) (h0 : 0 ≤ a) (h1 : a ≤ 100000) :
    Ev (fun k => outline_contours.l1 k b ends (pts : Int) a fl) (restP b ends fl a) := by
  have hx := coordP_at b 2 18 fl a 0
  refine Ev.step (fun k => by rw [outline_contours.l1, if_neg (by omega)]) ?_
  refine Ev.bind (coord_ev hb fl (by omega) 2 16 18 (.inl ⟨rfl, rfl, rfl⟩) a h0 (by omega)) ?_
  refine Ev.bind (coord_ev hb fl (by omega) 4 32 36 (.inr ⟨rfl, rfl, rfl⟩) _ (by omega) (by omega)) ?_
  have := l3_ev fl (coordP b 2 18 fl a 0).1 (coordP b 4 36 fl (coordP b 2 18 fl a 0).2 0).1 pts (by omega) hfl (by rw [coordP_len, hfl]) (by rw [coordP_len, hfl]) ends (by omega) he ends.length 0 (by omega) 0 [] rfl (by omega)
  rw [List.drop_zero, List.nil_append] at this
  exact this
theorem l2_ev (b : List Int) (ends : List Int) (pts : Int) (a f : Int) (c : Nat) (hc : c ≤ 1000) (R : List (List Pt) × List Pr) : ∀ d i : Nat, i + d = c → ∀ acc : List Int, acc.length ≤ 1000 + i →
    Ev (fun k => outline_contours.l1 k b ends pts a (acc ++ List.replicate d f)) R → Ev (fun k => outline_contours.l2 k b ends pts a acc f (c : Int) (i : Int)) R := by
  intro d
  induction d with
  | zero =>
    intro i hi acc hac h
    rw [List.replicate_zero, List.append_nil] at h
    exact Ev.step (fun k => by rw [outline_contours.l2, if_neg (by omega)]) h
  | succ d ih =>
    intro i hi acc hac h
    have hn := ih (i + 1) (by omega) (acc ++ [f]) (by simp; omega) (by rw [List.append_assoc, List.singleton_append, ← List.replicate_succ]; exact h)
    exact Ev.step (fun k => by rw [outline_contours.l2, if_pos (by omega), if_pos (by omega), wnat (by omega)]) hn
/-- One flag read, with its repeats. -/
def stepC (b : List Int) (a : Int) : Nat := if Go.bits .and .i64 (fieldP b a 1).1 8 = 0 then 1 else 1 + (fieldP b (a + 1) 1).1.toNat
def stepA (b : List Int) (a : Int) : Int := if Go.bits .and .i64 (fieldP b a 1).1 8 = 0 then a + 1 else a + 2
theorem l1_bad {b : List Int} (hb : b.all byteB = true) (ends acc : List Int) (pts : Nat) (a : Int) (h0 : 0 ≤ a) (h1 : a ≤ 1000000) (hlt : acc.length < pts) (hno : (fieldP b a 1).2 = false) : Ev (fun k => outline_contours.l1 k b ends (pts : Int) a acc) ([], []) := by
  have W1 := Aside0.mk (show wrap64 (a + 1) = a + 1 by unfold wrap64; omega)
  refine Ev.step (fun k => by rw [outline_contours.l1, if_pos (by omega), u8_eq hb, Option.bind_some, W1.out, u8_eq hb, Option.bind_some, hno]) ?_
  split
  · exact Ev.step (fun k => by rw [outline_contours.j2, if_neg (by decide)]) (Ev.now _)
  · exact Ev.step (fun k => by rw [outline_contours.j2, if_neg (by decide)]) (Ev.now _)
theorem l1_step {b : List Int} (hb : b.all byteB = true) (ends acc : List Int) (pts : Nat) (hp : pts ≤ 80) (a : Int) (h0 : 0 ≤ a) (h1 : a ≤ 1000000) (hlt : acc.length < pts) (hyes : (fieldP b a 1).2 = true) (R : List (List Pt) × List Pr)
    (h : Ev (fun k => outline_contours.l1 k b ends (pts : Int) (stepA b a) (acc ++ List.replicate (min (stepC b a) (pts - acc.length)) (fieldP b a 1).1)) R) : Ev (fun k => outline_contours.l1 k b ends (pts : Int) a acc) R := by
  have W1 := Aside0.mk (show wrap64 (a + 1) = a + 1 by unfold wrap64; omega)
  have W2 := Aside0.mk (show wrap64 (a + 1 + 1) = a + 2 by unfold wrap64; omega)
  have W3 := Aside0.mk (show wrap64 ((pts : Int) - (acc.length : Int)) = ((pts - acc.length : Nat) : Int) by unfold wrap64; omega)
  have hr := fieldP_range hb (a + 1) (n := 1) (.inl rfl)
  have W4 := Aside0.mk (show wrap64 (1 + (fieldP b (a + 1) 1).1) = ((1 + (fieldP b (a + 1) 1).1.toNat : Nat) : Int) by unfold wrap64; omega)
  refine Ev.step (fun k => by rw [outline_contours.l1, if_pos (by omega), u8_eq hb, Option.bind_some, W1.out, u8_eq hb, Option.bind_some, W2.out, W4.out, hyes]) ?_
  have fin (c : Nat) (a' : Int) (h : Ev (fun k => outline_contours.l1 k b ends (pts : Int) a' (acc ++ List.replicate (min c (pts - acc.length)) (fieldP b a 1).1)) R) : Ev (fun k => outline_contours.j2 k b ends (pts : Int) a' acc (fieldP b a 1).1 true (c : Int)) R := by
    have hm : mn (c : Int) ((pts - acc.length : Nat) : Int) = ((min c (pts - acc.length) : Nat) : Int) := by unfold mn; omega
    refine Ev.step (fun k => by rw [outline_contours.j2, if_pos rfl, W3.out, hm]) ?_
    exact l2_ev b ends (pts : Int) a' _ (min c (pts - acc.length)) (by omega) R (min c (pts - acc.length)) 0 (by omega) acc (by omega) h
  unfold stepC stepA at h
  split
  · rename_i h8
    rw [if_pos h8, if_pos h8] at h
    exact fin 1 (a + 1) h
  · rename_i h8
    rw [if_neg h8, if_neg h8] at h
    exact fin _ (a + 2) h
end Go.Proofs.Ytmppdgjnibamlab.Pag

/-! What outline.Write has written is read as it was; and all bytes are read, or refused. Plain. -/
namespace Go.Proofs.Ytmppdgjnibamlab.Pag
open Go.RowKit Go.Proofs.Ytmppdgjnibamlab.POl Go.Proofs.YtmppdgjnibamlabW.PrintWords
set_option linter.unusedVariables false
set_option linter.unusedSimpArgs false

/-! ### all bytes are read -/
theorem l1_tot {b : List Int} (hb : b.all byteB = true) (ends : List Int) (pts : Nat) (hp : pts ≤ 80) (hl : ends.length ≤ 100) (he : ∀ e ∈ ends, 0 ≤ e ∧ e < (pts : Int)) : ∀ (d : Nat) (acc : List Int) (a : Int), pts - acc.length ≤ d → acc.length ≤ pts → 0 ≤ a → a ≤ 1000 + 2 * (acc.length : Int) →
    ∃ p : List (List Pt) × List Pr, Ev (fun k => outline_contours.l1 k b ends (pts : Int) a acc) p ∧ (∀ c ∈ p.1, c.length ≤ 1000) ∧ p.2 = [] := by
  intro d
  induction d with
  | zero =>
    intro acc a hd ha h0 h1
    refine ⟨_, rest_ev hb ends acc pts hp (by omega) hl he a h0 (by omega), ?_, rfl⟩
    exact segs_len _ _ _ _ _ (fun e h => by have := he e h; omega)
  | succ d ih =>
    intro acc a hd ha h0 h1
    by_cases hlt : acc.length < pts
    · cases hf : (fieldP b a 1).2 with
      | false => exact ⟨_, l1_bad hb ends acc pts a h0 (by omega) hlt hf, by simp, rfl⟩
      | true =>
        have hc : 1 ≤ stepC b a := by unfold stepC; split <;> omega
        have hs : a ≤ stepA b a ∧ stepA b a ≤ a + 2 := by unfold stepA; split <;> omega
        obtain ⟨p, h2, h3⟩ := ih (acc ++ List.replicate (min (stepC b a) (pts - acc.length)) (fieldP b a 1).1) (stepA b a) (by simp; omega) (by simp; omega) (by omega) (by simp; omega)
        exact ⟨p, l1_step hb ends acc pts hp a h0 (by omega) hlt hf p h2, h3⟩
    · refine ⟨_, rest_ev hb ends acc pts hp (by omega) hl he a h0 (by omega), ?_, rfl⟩
      exact segs_len _ _ _ _ _ (fun e h => by have := he e h; omega)
theorem l0_tot {b : List Int} (hb : b.all byteB = true) (n : Nat) (hn : n ≤ 10) (a : Int) (h0 : 0 ≤ a) (h1 : a ≤ 1000) : ∀ d i : Nat, i + d = n → ∀ (acc : List Int) (pts : Nat), acc.length = i → pts ≤ 80 → (∀ e ∈ acc, 0 ≤ e ∧ e < (pts : Int)) →
    ∃ p : List (List Pt) × List Pr, Ev (fun k => outline_contours.l0 k b acc (pts : Int) a (n : Int) (i : Int)) p ∧ (∀ c ∈ p.1, c.length ≤ 1000) ∧ p.2 = [] := by
  intro d
  induction d with
  | zero =>
    intro i hi acc pts hac hp he
    obtain ⟨p, h2, h3⟩ := l1_tot hb acc pts hp (by omega) he pts [] a (by simp) (by simp) h0 (by simp; omega)
    exact ⟨p, Ev.step (fun k => by rw [outline_contours.l0, if_neg (by omega)]) h2, h3⟩
  | succ d ih =>
    intro i hi acc pts hac hp he
    have W1 := Aside0.mk (show wrap64 (2 + wrap64 (2 * (i : Int))) = 2 + 2 * (i : Int) by unfold wrap64; omega)
    have hr := fieldP_range hb (2 + 2 * (i : Int)) (n := 2) (.inr rfl)
    by_cases c1 : (fieldP b (2 + 2 * (i : Int)) 2).1 < (pts : Int)
    · exact ⟨([], []), Ev.step (fun k => by rw [outline_contours.l0, if_pos (by omega), W1.out, u16_eq hb, Option.bind_some, if_pos c1]) (Ev.now _), by simp, rfl⟩
    · by_cases c2 : (fieldP b (2 + 2 * (i : Int)) 2).1 ≥ 80
      · exact ⟨([], []), Ev.step (fun k => by rw [outline_contours.l0, if_pos (by omega), W1.out, u16_eq hb, Option.bind_some, if_neg c1, if_pos c2]) (Ev.now _), by simp, rfl⟩
      · obtain ⟨e, hee⟩ : ∃ e : Nat, (fieldP b (2 + 2 * (i : Int)) 2).1 = (e : Int) := ⟨(fieldP b (2 + 2 * (i : Int)) 2).1.toNat, by omega⟩
        rw [hee] at c1 c2
        obtain ⟨p, h2, h3⟩ := ih (i + 1) (by omega) (acc ++ [(e : Int)]) (e + 1) (by simp [hac]) (by omega) (fun x hx => by
          rcases List.mem_append.1 hx with hx | hx
          · have := he x hx
            omega
          · rw [List.mem_singleton.1 hx]; omega)
        exact ⟨p, Ev.step (fun k => by rw [outline_contours.l0, if_pos (by omega), W1.out, u16_eq hb, Option.bind_some, hee, if_neg c1, if_neg c2, if_pos (by omega), wnat (by omega), wnat (by omega)]) h2, h3⟩
theorem contours_tot {b : List Int} (hb : b.all byteB = true) (n : Nat) (hn : n ≤ 10) : ∃ p : List (List Pt) × List Pr, Ev (fun k => outline_contours.f k b (n : Int)) p ∧ (∀ c ∈ p.1, c.length ≤ 1000) ∧ p.2 = [] := by
  unfold outline_contours.f
  rw [show wrap64 (2 + wrap64 (2 * (n : Int))) = 2 + 2 * (n : Int) by unfold wrap64; omega]
  exact l0_tot hb n hn (2 + 2 * (n : Int)) (by omega) (by omega) n 0 (by omega) [] 0 rfl (by omega) (by simp)
def prP (b : List Int) (i : Nat) : Pr := ⟨(fieldP b (4 + 6 * (i : Int)) 2).1, (i16P b (6 + 6 * (i : Int))).1, (i16P b (8 + 6 * (i : Int))).1⟩
theorem parts_loop {b : List Int} (hb : b.all byteB = true) (n : Nat) (hn : n ≤ 6) : ∀ d i : Nat, i + d = n → ∀ acc : List Pr, acc.length = i → Ev (fun k => outline_parts.l0 k b (n : Int) (i : Int) acc) ([], acc ++ (List.range' i d).map (prP b)) := by
  intro d
  induction d with
  | zero =>
    intro i hi acc hac
    exact Ev.step (fun k => by rw [outline_parts.l0, if_neg (by omega)]) (by rw [show (List.range' i 0).map (prP b) = [] from rfl, List.append_nil]; exact Ev.now _)
  | succ d ih =>
    intro i hi acc hac
    have W1 := Aside0.mk (show wrap64 (4 + wrap64 (6 * (i : Int))) = 4 + 6 * (i : Int) by unfold wrap64; omega)
    have W2 := Aside0.mk (show wrap64 (6 + wrap64 (6 * (i : Int))) = 6 + 6 * (i : Int) by unfold wrap64; omega)
    have W3 := Aside0.mk (show wrap64 (8 + wrap64 (6 * (i : Int))) = 8 + 6 * (i : Int) by unfold wrap64; omega)
    have hn2 := ih (i + 1) (by omega) (acc ++ [prP b i]) (by simp [hac])
    rw [List.append_assoc, List.singleton_append] at hn2
    rw [List.range'_succ, List.map_cons]
    exact Ev.step (fun k => by rw [outline_parts.l0, if_pos (by omega), W1.out, u16_eq hb, Option.bind_some, W2.out, i16_eq hb, Option.bind_some, W3.out, i16_eq hb, Option.bind_some, if_pos (by omega), wnat (by omega)]; rfl) hn2
theorem parts_ev2 {b : List Int} (hb : b.all byteB = true) : Ev (fun k => outline_parts.f k b) ([], (List.range' 0 (min (fieldP b 2 2).1.toNat 6)).map (prP b)) := by
  unfold outline_parts.f
  have hr := fieldP_range hb 2 (n := 2) (.inr rfl)
  have hm : mn (fieldP b 2 2).1 6 = ((min (fieldP b 2 2).1.toNat 6 : Nat) : Int) := by unfold mn; omega
  refine Ev.congr (fun k => by rw [u16_eq hb, Option.bind_some, hm]) ?_
  have := parts_loop hb (min (fieldP b 2 2).1.toNat 6) (by omega) (min (fieldP b 2 2).1.toNat 6) 0 (by omega) [] rfl
  rw [List.nil_append] at this
  exact this

/-! ### fields that were put -/
theorem len_be2 (x : Int) : (be x 2).length = 2 := by simp [be]
theorem len_be1 (x : Int) : (be x 1).length = 1 := by simp [be]
theorem be_two (x : Int) : be x 2 = [x / 256 % 256, x % 256] := by simp [be, List.range_succ]
theorem be_one (x : Int) : be x 1 = [x % 256] := by simp [be, List.range_succ]
theorem field2 {b P R : List Int} {x a : Int} (hb : b = P ++ (be x 2 ++ R)) (ha : a = (P.length : Int)) : fieldP b a 2 = (x % 65536, true) := by
  subst hb ha
  unfold fieldP
  rw [if_neg (by simp [len_be2]; omega), Int.toNat_natCast, List.drop_left, List.take_left' (by rw [len_be2]; rfl), be_two]
  simp only [numBE, List.foldl_cons, List.foldl_nil]
  congr 1
  omega
theorem field1 {b P R : List Int} {x a : Int} (hb : b = P ++ (be x 1 ++ R)) (ha : a = (P.length : Int)) : fieldP b a 1 = (x % 256, true) := by
  subst hb ha
  unfold fieldP
  rw [if_neg (by simp [len_be1]; omega), Int.toNat_natCast, List.drop_left, List.take_left' (by rw [len_be1]; rfl), be_one]
  simp only [numBE, List.foldl_cons, List.foldl_nil]
  congr 1
  omega
theorem sign2 {b P R : List Int} {x a : Int} (hb : b = P ++ (be x 2 ++ R)) (ha : a = (P.length : Int)) (h0 : -32768 ≤ x) (h1 : x ≤ 32767) : i16P b a = (x, true) := by
  unfold i16P
  rw [field2 hb ha]
  unfold sg
  simp only
  congr 1
  split <;> omega

/-! ### coordinates that were put -/
def psum : Int → List Int → List Int
  | _, [] => []
  | x, d :: r => (x + d) :: psum (x + d) r
def DD (sh sa so : Int) : List Int → List Int → Prop
  | [], [] => True
  | g :: G, d :: D => (Go.bits .and .i64 g so = flg d sh sa ∧ -32768 ≤ d ∧ d ≤ 32767) ∧ DD sh sa so G D
  | _, _ => False
theorem dP_rt {b P R : List Int} {g d a sh sa so : Int} (hs : (sh = 2 ∧ sa = 16 ∧ so = 18) ∨ (sh = 4 ∧ sa = 32 ∧ so = 36)) (hg : Go.bits .and .i64 g so = flg d sh sa) (h0 : -32768 ≤ d) (h1 : d ≤ 32767) (hb : b = P ++ (dif d ++ R)) (ha : a = (P.length : Int)) :
    dP b a g sh so = (d, a + ((dif d).length : Int)) := by
  have hq : sa ≠ so ∧ sa ≠ sh ∧ sa ≠ 0 ∧ sh ≠ so ∧ so ≠ 0 ∧ sh ≠ 0 ∧ sh + sa = so := by rcases hs with ⟨rfl, rfl, rfl⟩ | ⟨rfl, rfl, rfl⟩ <;> decide
  unfold dP
  rw [hg]
  unfold dif at hb ⊢
  unfold flg
  by_cases c0 : d = 0
  · rw [if_pos c0, if_neg hq.1, if_neg hq.2.1, if_neg hq.2.2.1, if_pos c0]
    simp [c0]
  · rw [if_neg c0] at hb
    by_cases c1 : 0 < d ∧ d ≤ 255
    · rw [if_pos c1] at hb
      rw [if_neg c0, if_pos c1, if_pos hq.2.2.2.2.2.2, if_neg c0, if_pos c1, field1 hb ha, len_be1]
      simp only
      congr 1
      omega
    · rw [if_neg c1] at hb
      by_cases c2 : d < 0 ∧ -255 ≤ d
      · rw [if_pos c2] at hb
        rw [if_neg c0, if_neg c1, if_pos c2, if_neg hq.2.2.2.1, if_pos rfl, if_neg c0, if_neg c1, if_pos c2, field1 hb ha, len_be1]
        simp only
        congr 1
        omega
      · rw [if_neg c2] at hb
        rw [if_neg c0, if_neg c1, if_neg c2, if_neg (Ne.symm hq.2.2.2.2.1), if_neg (Ne.symm hq.2.2.2.2.2.1), if_pos rfl, if_neg c0, if_neg c1, if_neg c2, sign2 hb ha h0 h1, len_be2]
        rfl
theorem coord_rt {b : List Int} {sh sa so : Int} (hs : (sh = 2 ∧ sa = 16 ∧ so = 18) ∨ (sh = 4 ∧ sa = 32 ∧ so = 36)) : ∀ (D G P R : List Int) (a x : Int), DD sh sa so G D → b = P ++ (D.flatMap dif ++ R) → a = (P.length : Int) → coordP b sh so G a x = (psum x D, a + ((D.flatMap dif).length : Int))
  | [], [], P, R, a, x, _, hb, ha => by simp [coordP, psum]
  | [], g :: G, P, R, a, x, h, _, _ => h.elim
  | d :: D, [], P, R, a, x, h, _, _ => h.elim
  | d :: D, g :: G, P, R, a, x, h, hb, ha => by
    obtain ⟨⟨h1, h2, h3⟩, h4⟩ := h
    rw [List.flatMap_cons] at hb
    have e := dP_rt (b := b) (P := P) hs h1 h2 h3 (R := D.flatMap dif ++ R) (by rw [hb, List.append_assoc]) ha
    rw [coordP, e]
    simp only
    rw [coord_rt hs D G (P ++ dif d) R (a + ((dif d).length : Int)) (x + d) h4 (by rw [hb]; simp only [List.append_assoc]) (by rw [ha, List.length_append]; omega)]
    simp only [psum, List.flatMap_cons, List.length_append]
    congr 1
    omega
theorem psum_x : ∀ (l : List Pt) (a b : Int), psum a ((stp a b l).map (fun s => s.1)) = l.map (fun p => p.f0)
  | [], _, _ => rfl
  | p :: r, a, b => by
    rw [stp, List.map_cons, psum, List.map_cons]
    simp only
    rw [show a + (p.f0 - a) = p.f0 by omega, psum_x r]
theorem psum_y : ∀ (l : List Pt) (a b : Int), psum b ((stp a b l).map (fun s => s.2.1)) = l.map (fun p => p.f1)
  | [], _, _ => rfl
  | p :: r, a, b => by
    rw [stp, List.map_cons, psum, List.map_cons]
    simp only
    rw [show b + (p.f1 - b) = p.f1 by omega, psum_y r]

/-! ### flags that were put -/
theorem flag_bits2 (x y z : Int) (h1 : x = 16 ∨ x = 2 + 16 ∨ x = 2 ∨ x = 0) (h2 : y = 32 ∨ y = 4 + 32 ∨ y = 4 ∨ y = 0) (h3 : z = 1 ∨ z = 0) : Go.bits .and .i64 (x + y + z) 8 = 0 ∧ Go.bits .and .i64 (x + y + z + 8) 8 = 8 ∧ Go.bits .and .i64 (x + y + z) 1 = z ∧ Go.bits .and .i64 (x + y + z + 8) 1 = z ∧
    Go.bits .and .i64 (x + y + z + 8) 18 = x ∧ Go.bits .and .i64 (x + y + z + 8) 36 = y := by
  rcases h1 with rfl | rfl | rfl | rfl <;> rcases h2 with rfl | rfl | rfl | rfl <;> rcases h3 with rfl | rfl <;> decide
theorem flag_bits3 (s : Stp) : Go.bits .and .i64 (flagOf s) 8 = 0 ∧ Go.bits .and .i64 (flagOf s + 8) 8 = 8 ∧ Go.bits .and .i64 (flagOf s) 1 = (if s.2.2 = true then 1 else 0) ∧ Go.bits .and .i64 (flagOf s + 8) 1 = (if s.2.2 = true then 1 else 0) ∧
    Go.bits .and .i64 (flagOf s + 8) 18 = flg s.1 2 16 ∧ Go.bits .and .i64 (flagOf s + 8) 36 = flg s.2.1 4 32 :=
  flag_bits2 _ _ (if s.2.2 = true then 1 else 0) (flg_cases s.1 2 16) (flg_cases s.2.1 4 32) (by split; exact .inl rfl; exact .inr rfl)
def Fl (f : Int) : Prop := 0 ≤ f ∧ f ≤ 55 ∧ Go.bits .and .i64 f 8 = 0 ∧ Go.bits .and .i64 (f + 8) 8 = 8
theorem Fl_of (s : Stp) : Fl (flagOf s) := ⟨(flag_bits s).2.2.2.2.2.1, (flag_bits s).2.2.2.2.2.2, (flag_bits3 s).1, (flag_bits3 s).2.1⟩
def Sim : List Int → List Int → Prop
  | [], [] => True
  | g :: G, f :: F => (g = f ∨ g = f + 8) ∧ Sim G F
  | _, _ => False
theorem Sim.len : ∀ {G F : List Int}, Sim G F → G.length = F.length
  | [], [], _ => rfl
  | [], f :: F, h => h.elim
  | g :: G, [], h => h.elim
  | g :: G, f :: F, h => by rw [List.length_cons, List.length_cons, Sim.len h.2]
theorem Sim.get : ∀ {G F : List Int}, Sim G F → ∀ (i : Nat) (h1 : i < G.length) (h2 : i < F.length), G[i] = F[i] ∨ G[i] = F[i] + 8
  | [], [], _, i, h1, _ => by simp at h1
  | [], f :: F, h, _, _, _ => h.elim
  | g :: G, [], h, _, _, _ => h.elim
  | g :: G, f :: F, h, 0, _, _ => h.1
  | g :: G, f :: F, h, i + 1, h1, h2 => Sim.get h.2 i (by simpa using h1) (by simpa using h2)
theorem Sim.rep (f : Int) : ∀ (m : Nat) (r G : List Int), m ≤ lead f r → Sim G (r.drop m) → Sim (List.replicate m (f + 8) ++ G) r
  | 0, r, G, _, h => by simpa using h
  | m + 1, [], G, hm, _ => by simp [lead] at hm
  | m + 1, x :: r, G, hm, h => by
    unfold lead at hm
    split at hm
    · rename_i hx
      subst hx
      rw [List.replicate_succ, List.cons_append]
      exact ⟨.inr rfl, Sim.rep x m r G (by omega) h⟩
    · omega
theorem flags_rt {b : List Int} (hb : b.all byteB = true) (ends : List Int) (pts : Nat) (hp : pts ≤ 80) : ∀ (n : Nat) (fs : List Int), fs.length ≤ n → (∀ f ∈ fs, Fl f) → ∀ (P Q acc : List Int) (a : Int), b = P ++ (rle fs ++ Q) → a = (P.length : Int) → P.length + 2 * fs.length ≤ 1000 → acc.length + fs.length = pts →
    ∃ G, Sim G fs ∧ ∀ R, Ev (fun k => outline_contours.l1 k b ends (pts : Int) (a + ((rle fs).length : Int)) (acc ++ G)) R → Ev (fun k => outline_contours.l1 k b ends (pts : Int) a acc) R := by
  intro n
  induction n with
  | zero =>
    intro fs hn _ P Q acc a _ _ _ _
    obtain rfl : fs = [] := List.eq_nil_of_length_eq_zero (by omega)
    exact ⟨[], trivial, fun R h => by simpa [rle_nil] using h⟩
  | succ n ih =>
    intro fs hn hfl P Q acc a hbe ha hP hac
    match fs, hn, hfl, hbe, hac, hP with
    | [], _, _, _, _, _ => exact ⟨[], trivial, fun R h => by simpa [rle_nil] using h⟩
    | f :: r, hn, hfl, hbe, hac, hP =>
      rw [List.length_cons] at hn hac hP
      obtain ⟨f0, f1, f2, f3⟩ := hfl f (by simp)
      rw [rle_cons] at hbe ⊢
      have hle := lead_le f r
      have hrd : ∀ x ∈ r.drop (lead f r), Fl x := fun x hx => hfl x (List.mem_cons_of_mem _ (List.mem_of_mem_drop hx))
      by_cases h0 : lead f r = 0
      · rw [if_pos h0] at hbe ⊢
        rw [h0, List.drop_zero] at hbe hrd ⊢
        have hrf := field1 (b := b) (P := P) (x := f) (R := rle r ++ Q) (by rw [hbe, List.append_assoc]) ha
        rw [show f % 256 = f by omega] at hrf
        obtain ⟨G, hG, hR⟩ := ih r (by omega) hrd (P ++ be f 1) Q (acc ++ [f]) (a + 1) (by rw [hbe]; simp only [List.append_assoc]) (by rw [List.length_append, len_be1]; omega) (by rw [List.length_append, len_be1]; omega) (by simp; omega)
        refine ⟨f :: G, ⟨.inl rfl, hG⟩, fun R h => ?_⟩
        refine l1_step hb ends acc pts hp a (by omega) (by omega) (by omega) (by rw [hrf]) R ?_
        have e1 : stepC b a = 1 := by unfold stepC; rw [hrf, if_pos f2]
        have e2 : stepA b a = a + 1 := by unfold stepA; rw [hrf, if_pos f2]
        rw [e1, e2, hrf, show min 1 (pts - acc.length) = 1 by omega]
        refine hR R ?_
        rw [List.append_assoc, List.singleton_append]
        rw [List.length_append, len_be1] at h
        rw [show a + 1 + ((rle r).length : Int) = a + ((1 + (rle r).length : Nat) : Int) by omega]
        exact h
      · rw [if_neg h0] at hbe ⊢
        have hrf := field1 (b := b) (P := P) (x := f + 8) (R := be (lead f r : Int) 1 ++ (rle (r.drop (lead f r)) ++ Q)) (by rw [hbe]; simp only [List.append_assoc]) ha
        have hrm := field1 (b := b) (P := P ++ be (f + 8) 1) (a := a + 1) (R := rle (r.drop (lead f r)) ++ Q) (x := (lead f r : Int)) (by rw [hbe]; simp only [List.append_assoc]) (by rw [List.length_append, len_be1]; omega)
        rw [show (f + 8) % 256 = f + 8 by omega] at hrf
        rw [show (lead f r : Int) % 256 = (lead f r : Int) by omega] at hrm
        obtain ⟨G, hG, hR⟩ := ih (r.drop (lead f r)) (by rw [List.length_drop]; omega) hrd (P ++ be (f + 8) 1 ++ be (lead f r : Int) 1) Q (acc ++ List.replicate (1 + lead f r) (f + 8)) (a + 2) (by rw [hbe]; simp only [List.append_assoc]) (by rw [List.length_append, List.length_append, len_be1, len_be1]; omega) (by
          rw [List.length_append, List.length_append, len_be1, len_be1, List.length_drop]; omega) (by simp [List.length_drop]; omega)
        refine ⟨List.replicate (1 + lead f r) (f + 8) ++ G, ?_, fun R h => ?_⟩
        · rw [show 1 + lead f r = lead f r + 1 by omega, List.replicate_succ, List.cons_append]
          exact ⟨.inr rfl, Sim.rep f (lead f r) r G (Nat.le_refl _) hG⟩
        · refine l1_step hb ends acc pts hp a (by omega) (by omega) (by omega) (by rw [hrf]) R ?_
          have e1 : stepC b a = 1 + lead f r := by unfold stepC; rw [hrf, if_neg (by rw [f3]; decide), hrm, Int.toNat_natCast]
          have e2 : stepA b a = a + 2 := by unfold stepA; rw [hrf, if_neg (by rw [f3]; decide)]
          rw [e1, e2, hrf, show min (1 + lead f r) (pts - acc.length) = 1 + lead f r by omega]
          refine hR R ?_
          rw [List.append_assoc]
          rw [List.length_append, List.length_append, len_be1, len_be1] at h
          rw [show a + 2 + ((rle (r.drop (lead f r))).length : Int) = a + ((1 + 1 + (rle (r.drop (lead f r))).length : Nat) : Int) by omega]
          exact h
end Go.Proofs.Ytmppdgjnibamlab.Pag

/-! outline.Read of what outline.Write has written, whatever stands behind; of all bytes. Plain. -/
namespace Go.Proofs.Ytmppdgjnibamlab.Pag
open Go.RowKit Go.Proofs.Ytmppdgjnibamlab.POl Go.Proofs.YtmppdgjnibamlabW.PrintWords
set_option linter.unusedVariables false
set_option linter.unusedSimpArgs false

theorem sim_dx : ∀ (sts : List Stp) (G : List Int), Sim G (sts.map flagOf) → (∀ s ∈ sts, okS s = true) → DD 2 16 18 G (sts.map (fun s => s.1))
  | [], [], _, _ => trivial
  | [], g :: G, h, _ => h.elim
  | s :: r, [], h, _ => h.elim
  | s :: r, g :: G, h, ho => by
    have h1 := ho s (by simp)
    simp only [okS, Bool.and_eq_true, inF_iff] at h1
    refine ⟨⟨?_, h1.1.1, h1.1.2⟩, sim_dx r G h.2 (fun s hs => ho s (by simp [hs]))⟩
    rcases h.1 with e | e <;> rw [e]
    · exact (flag_bits s).2.2.2.1
    · exact (flag_bits3 s).2.2.2.2.1
theorem sim_dy : ∀ (sts : List Stp) (G : List Int), Sim G (sts.map flagOf) → (∀ s ∈ sts, okS s = true) → DD 4 32 36 G (sts.map (fun s => s.2.1))
  | [], [], _, _ => trivial
  | [], g :: G, h, _ => h.elim
  | s :: r, [], h, _ => h.elim
  | s :: r, g :: G, h, ho => by
    have h1 := ho s (by simp)
    simp only [okS, Bool.and_eq_true, inF_iff] at h1
    refine ⟨⟨?_, h1.2.1, h1.2.2⟩, sim_dy r G h.2 (fun s hs => ho s (by simp [hs]))⟩
    rcases h.1 with e | e <;> rw [e]
    · exact (flag_bits s).2.2.2.2.1
    · exact (flag_bits3 s).2.2.2.2.2
theorem stp_on : ∀ (l : List Pt) (a b : Int) (i : Nat) (h : i < (stp a b l).length) (h2 : i < l.length), ((stp a b l)[i]).2.2 = l[i].f2
  | [], _, _, i, h, h2 => by simp at h2
  | p :: r, a, b, 0, h, h2 => rfl
  | p :: r, a, b, i + 1, h, h2 => stp_on r p.f0 p.f1 i (by simpa [stp] using h) (by simpa using h2)
theorem ptP_rt {l : List Pt} {G : List Int} (hG : Sim G ((stp 0 0 l).map flagOf)) (i : Nat) (hi : i < l.length) : ptP G (l.map (fun p => p.f0)) (l.map (fun p => p.f1)) i = l[i] := by
  have hl := hG.len
  rw [List.length_map, stp_len] at hl
  have hs : i < (stp 0 0 l).length := by rw [stp_len]; exact hi
  have hon := stp_on l 0 0 i hs hi
  have hg := hG.get i (by omega) (by rw [List.length_map]; exact hs)
  rw [List.getElem_map] at hg
  have e0 : rd (l.map (fun p => p.f0)) (i : Int) = l[i].f0 := by simp [rd, hi]
  have e1 : rd (l.map (fun p => p.f1)) (i : Int) = l[i].f1 := by simp [rd, hi]
  have e2 : rd G (i : Int) = G[i]'(by omega) := by simp [rd, show i < G.length by omega]
  unfold ptP
  rw [e0, e1, e2]
  generalize l[i] = p at hon
  have hb := flag_bits3 ((stp 0 0 l)[i])
  have : ((Go.bits .and .i64 (G[i]'(by omega)) 1) != 0) = p.f2 := by
    rw [← hon]
    rcases hg with e | e <;> rw [e]
    · rw [hb.2.2.1]
      cases ((stp 0 0 l)[i]).2.2 <;> decide
    · rw [hb.2.2.2.1]
      cases ((stp 0 0 l)[i]).2.2 <;> decide
  rw [this]
theorem seg_rt {l : List Pt} {G xs ys : List Int} (h : ∀ i (hi : i < l.length), ptP G xs ys i = l[i]) (i n : Nat) (hin : i + n ≤ l.length) : seg G xs ys i n = (l.drop i).take n := by
  unfold seg
  apply List.ext_getElem
  · simp; omega
  · intro j h1 h2
    simp only [List.length_map, List.length_range'] at h1
    simp only [List.getElem_map, List.getElem_range', List.getElem_take, List.getElem_drop, Nat.one_mul]
    exact h (i + j) (by omega)
theorem segs_rt {l : List Pt} {G xs ys : List Int} (h : ∀ i (hi : i < l.length), ptP G xs ys i = l[i]) : ∀ (r : List (List Pt)) (i : Nat), l.drop i = r.flatten → i ≤ l.length → (∀ c ∈ r, 1 ≤ c.length) → segs G xs ys i (endsO r ((i : Int) - 1)) = r
  | [], _, _, _, _ => rfl
  | c :: r, i, hd, hi, hc => by
    have h1 := hc c (by simp)
    rw [List.flatten_cons] at hd
    have hlen : c.length + r.flatten.length = l.length - i := by rw [← List.length_append, ← hd, List.length_drop]
    rw [endsO, segs, show ((i : Int) - 1 + (c.length : Int)).toNat + 1 - i = c.length by omega, seg_rt h i c.length (by omega), hd, List.take_left]
    have e : ((i : Int) - 1 + (c.length : Int)).toNat + 1 = i + c.length := by omega
    rw [e, show (i : Int) - 1 + (c.length : Int) = ((i + c.length : Nat) : Int) - 1 by omega]
    rw [segs_rt h r (i + c.length) (by rw [← List.drop_drop, hd, List.drop_left]) (by omega) (fun c hx => hc c (by simp [hx]))]
theorem endsO_in : ∀ (r : List (List Pt)) (q : Nat), (∀ c ∈ r, 1 ≤ c.length) → ∀ e ∈ endsO r ((q : Int) - 1), (q : Int) ≤ e ∧ e < ((q + r.flatten.length : Nat) : Int)
  | [], _, _, e, he => by simp [endsO] at he
  | c :: r, q, hc, e, he => by
    have h1 := hc c (by simp)
    rw [List.flatten_cons, List.length_append]
    rcases List.mem_cons.1 he with rfl | he
    · omega
    · rw [show (q : Int) - 1 + (c.length : Int) = ((q + c.length : Nat) : Int) - 1 by omega] at he
      have := endsO_in r (q + c.length) (fun c hx => hc c (by simp [hx])) e he
      omega
theorem w22 {i : Nat} (h : i ≤ 10) : wrap64 (2 + wrap64 (2 * (i : Int))) = 2 + 2 * (i : Int) := by unfold wrap64; omega
theorem wx1 {x : Int} (h0 : 0 ≤ x) (h1 : x < 80) : wrap64 (x + 1) = x + 1 := by unfold wrap64; omega
theorem l0_rt {b : List Int} (hb : b.all byteB = true) (m n : Nat) (hm : m ≤ 10) (hn : n ≤ 80) (a : Int) (R : List (List Pt) × List Pr) : ∀ (r : List (List Pt)) (i q : Nat) (acc P Q : List Int), b = P ++ ((endsO r ((q : Int) - 1)).flatMap (fun e => be e 2) ++ Q) → P.length = 2 + 2 * i → i + r.length = m → acc.length = i → q + r.flatten.length = n → (∀ c ∈ r, 1 ≤ c.length) →
    Ev (fun k => outline_contours.l1 k b (acc ++ endsO r ((q : Int) - 1)) (n : Int) a []) R → Ev (fun k => outline_contours.l0 k b acc (q : Int) a (m : Int) (i : Int)) R := by
  intro r
  induction r with
  | nil =>
    intro i q acc P Q hbe hP hi hac hq hc h
    rw [endsO, List.append_nil] at h
    simp only [List.length_nil, List.flatten_nil] at hi hq
    refine Ev.step (fun k => by rw [outline_contours.l0, if_neg (by omega)]) ?_
    rw [show (q : Int) = (n : Int) by omega]
    exact h
  | cons c r ih =>
    intro i q acc P Q hbe hP hi hac hq hc h
    have h1 := hc c (by simp)
    rw [List.flatten_cons, List.length_append] at hq
    rw [List.length_cons] at hi
    rw [endsO, List.flatMap_cons, List.append_assoc] at hbe
    rw [endsO] at h
    have e : (q : Int) - 1 + (c.length : Int) = ((q + c.length : Nat) : Int) - 1 := by omega
    obtain ⟨x, hx⟩ : ∃ x, (q : Int) - 1 + (c.length : Int) = x := ⟨_, rfl⟩
    rw [hx] at hbe h e
    have c0 : 0 ≤ x := by omega
    have c1 : x < 80 := by omega
    have e2 : x + 1 = ((q + c.length : Nat) : Int) := by omega
    have W1 := Aside0.mk (w22 (i := i) (by omega))
    have hf := field2 (b := b) (P := P) (a := 2 + 2 * (i : Int)) hbe (by omega)
    rw [show x % 65536 = x by omega] at hf
    have W2 := Aside0.mk ((wx1 c0 c1).trans e2)
    have hn2 := ih (i + 1) (q + c.length) (acc ++ [x]) (P ++ be x 2) Q (by rw [hbe, ← e]; simp only [List.append_assoc]) (by rw [List.length_append, len_be2]; omega) (by omega) (by rw [List.length_append, hac]; rfl) (by omega) (fun c hx => hc c (List.mem_cons_of_mem _ hx)) (by rw [← e, List.append_assoc, List.singleton_append]; exact h)
    have c2 : ¬ (x < (q : Int)) := by omega
    have c3 : (i : Int) < (m : Int) := by omega
    have c4 : acc.length < 17592186044416 := by omega
    have c5 : i ≤ 9000000000000000 := by omega
    clear hx e hbe hP
    exact Ev.step (fun k => by rw [outline_contours.l0, if_pos c3, W1.out, u16_eq hb, Option.bind_some, hf, if_neg c2, if_neg (by simp only; omega), if_pos c4, W2.out, wnat c5]) hn2
/-- THE ROUND TRIP, contours. -/
theorem contours_rt {b rest : List Int} (hb : b.all byteB = true) (cs : List (List Pt)) (hf : FmO cs []) (hok : (stp 0 0 cs.flatten).all okS = true) (hbe : b = wrC cs ++ rest) : Ev (fun k => outline_contours.f k b (cs.length : Int)) (cs, []) := by
  have hne : ∀ c ∈ cs, 1 ≤ c.length := fun c hc => (hf.ne c hc).1
  have hm := hf.con
  have hn := hf.pts
  obtain ⟨l, hl⟩ : ∃ l, cs.flatten = l := ⟨_, rfl⟩
  have hend := endsO_in cs 0 hne
  simp only [Nat.zero_add, show ((0 : Nat) : Int) - 1 = -1 by decide] at hend
  unfold wrC at hbe
  rw [hl] at hn hok hbe hend
  have hel := endsO_len cs (-1)
  have hfl : ∀ f ∈ (stp 0 0 l).map flagOf, Fl f := fun f hf => by
    obtain ⟨s, _, rfl⟩ := List.mem_map.1 hf
    exact Fl_of s
  have hsl : ((stp 0 0 l).map flagOf).length = l.length := by rw [List.length_map, stp_len]
  have hebl : ((endsO cs (-1)).flatMap (fun e => be e 2)).length = 2 * cs.length := by
    have : ∀ l : List Int, (l.flatMap (fun e => be e 2)).length = 2 * l.length := by
      intro l
      induction l with
      | nil => rfl
      | cons x r ih => rw [List.flatMap_cons, List.length_append, len_be2, ih, List.length_cons]; omega
    rw [this, hel]
  obtain ⟨DX, hDX⟩ : ∃ D, ((stp 0 0 l).map (fun s => s.1)).flatMap dif = D := ⟨_, rfl⟩
  obtain ⟨DY, hDY⟩ : ∃ D, ((stp 0 0 l).map (fun s => s.2.1)).flatMap dif = D := ⟨_, rfl⟩
  obtain ⟨P1, hP1⟩ : ∃ P, be (cs.length : Int) 2 ++ (endsO cs (-1)).flatMap (fun e => be e 2) = P := ⟨_, rfl⟩
  have hP1l : P1.length = 2 + 2 * cs.length := by rw [← hP1, List.length_append, len_be2, hebl]
  obtain ⟨G, hG, hstep⟩ := flags_rt hb (endsO cs (-1)) l.length (by omega) l.length ((stp 0 0 l).map flagOf) (by omega) hfl P1 (DX ++ DY ++ rest) [] (2 + 2 * (cs.length : Int)) (by rw [hbe, hP1, hDX, hDY]; simp only [List.append_assoc]) (by omega) (by omega) (by simp [hsl])
  have hGl := hG.len
  rw [hsl] at hGl
  have hRL : (rle ((stp 0 0 l).map flagOf)).length ≤ 2 * l.length := by
    have := rle_len ((stp 0 0 l).map flagOf).length ((stp 0 0 l).map flagOf)
    rw [hsl] at this
    unfold rle
    rw [hsl]
    exact this
  have hosts : ∀ s ∈ stp 0 0 l, okS s = true := fun s hs => List.all_eq_true.1 hok s hs
  have hcx := coord_rt (b := b) (.inl ⟨rfl, rfl, rfl⟩) _ G (P1 ++ rle ((stp 0 0 l).map flagOf)) (DY ++ rest) (2 + 2 * (cs.length : Int) + ((rle ((stp 0 0 l).map flagOf)).length : Int)) 0 (sim_dx _ G hG hosts) (by rw [hbe, hP1, hDY]; simp only [List.append_assoc]) (by rw [List.length_append, hP1l]; omega)
  have hcy := coord_rt (b := b) (.inr ⟨rfl, rfl, rfl⟩) _ G (P1 ++ rle ((stp 0 0 l).map flagOf) ++ DX) rest (2 + 2 * (cs.length : Int) + ((rle ((stp 0 0 l).map flagOf)).length : Int) + (DX.length : Int)) 0 (sim_dy _ G hG hosts) (by rw [hbe, hP1, hDX]; simp only [List.append_assoc]) (by rw [List.length_append, List.length_append, hP1l]; omega)
  rw [psum_x, hDX] at hcx
  rw [psum_y] at hcy
  have hrest := rest_ev hb (endsO cs (-1)) G l.length (by omega) hGl (by omega) (fun e he => by have := hend e he; omega) (2 + 2 * (cs.length : Int) + ((rle ((stp 0 0 l).map flagOf)).length : Int)) (by omega) (by omega)
  have hre : restP b (endsO cs (-1)) G (2 + 2 * (cs.length : Int) + ((rle ((stp 0 0 l).map flagOf)).length : Int)) = (cs, []) := by
    unfold restP
    rw [hcx]
    simp only
    rw [hcy]
    simp only
    rw [show (-1 : Int) = ((0 : Nat) : Int) - 1 by decide, segs_rt (fun i hi => ptP_rt hG i hi) cs 0 (by rw [List.drop_zero, hl]) (by omega) hne]
  rw [hre] at hrest
  have h1 := hstep (cs, []) (by rw [List.nil_append]; exact hrest)
  unfold outline_contours.f
  rw [show wrap64 (2 + wrap64 (2 * (cs.length : Int))) = 2 + 2 * (cs.length : Int) by unfold wrap64; omega]
  exact l0_rt hb cs.length l.length hm (by omega) _ _ cs 0 0 [] (be (cs.length : Int) 2) (rle ((stp 0 0 l).map flagOf) ++ (DX ++ DY ++ rest)) (by rw [hbe, hDX, hDY]; simp only [List.append_assoc]; rfl) (by rw [len_be2]) (by omega) rfl (by rw [hl]; omega) hne h1

theorem parB_len (p : Pr) : (parB p).length = 6 := by simp [parB, be]
theorem prP_rt {b : List Int} : ∀ (r : List Pr) (i : Nat) (P Q : List Int), b = P ++ (r.flatMap parB ++ Q) → P.length = 4 + 6 * i → (∀ p ∈ r, 0 ≤ p.f0 ∧ p.f0 ≤ 65535 ∧ -32768 ≤ p.f1 ∧ p.f1 ≤ 32767 ∧ -32768 ≤ p.f2 ∧ p.f2 ≤ 32767) → (List.range' i r.length).map (prP b) = r
  | [], _, _, _, _, _, _ => rfl
  | p :: r, i, P, Q, hbe, hP, hr => by
    obtain ⟨g0, g1, g2, g3, g4, g5⟩ := hr p (by simp)
    rw [List.flatMap_cons] at hbe
    have e1 := field2 (b := b) (P := P) (x := p.f0) (a := 4 + 6 * (i : Int)) (R := be p.f1 2 ++ (be p.f2 2 ++ (r.flatMap parB ++ Q))) (by rw [hbe]; simp only [parB, List.append_assoc]) (by omega)
    have e2 := sign2 (b := b) (P := P ++ be p.f0 2) (x := p.f1) (a := 6 + 6 * (i : Int)) (R := be p.f2 2 ++ (r.flatMap parB ++ Q)) (by rw [hbe]; simp only [parB, List.append_assoc]) (by rw [List.length_append, len_be2]; omega) g2 g3
    have e3 := sign2 (b := b) (P := P ++ be p.f0 2 ++ be p.f1 2) (x := p.f2) (a := 8 + 6 * (i : Int)) (R := r.flatMap parB ++ Q) (by rw [hbe]; simp only [parB, List.append_assoc]) (by rw [List.length_append, List.length_append, len_be2, len_be2]; omega) g4 g5
    rw [List.length_cons, List.range'_succ, List.map_cons, prP_rt r (i + 1) (P ++ parB p) Q (by rw [hbe]; simp only [List.append_assoc]) (by rw [List.length_append, parB_len]; omega) (fun p hp => hr p (by simp [hp]))]
    unfold prP
    rw [e1, e2, e3]
    simp only
    rw [show p.f0 % 65536 = p.f0 by omega]
/-- THE ROUND TRIP, parts. -/
theorem parts_rt {b rest : List Int} (hb : b.all byteB = true) (ps : List Pr) (hp : ps.length ≤ 6) (hr : ∀ p ∈ ps, 0 ≤ p.f0 ∧ p.f0 ≤ 65535 ∧ -32768 ≤ p.f1 ∧ p.f1 ≤ 32767 ∧ -32768 ≤ p.f2 ∧ p.f2 ≤ 32767) (hbe : b = wrP ps ++ rest) : Ev (fun k => outline_parts.f k b) ([], ps) := by
  have h := parts_ev2 hb
  unfold wrP at hbe
  have e1 := field2 (b := b) (P := be (-1) 2) (x := (ps.length : Int)) (a := 2) (R := ps.flatMap parB ++ rest) (by rw [hbe]; simp only [List.append_assoc]) (by rw [len_be2]; rfl)
  rw [e1] at h
  simp only at h
  rw [show min ((ps.length : Int) % 65536).toNat 6 = ps.length by omega, prP_rt ps 0 (be (-1) 2 ++ be (ps.length : Int) 2) rest (by rw [hbe]; simp only [List.append_assoc]) (by rw [List.length_append, len_be2, len_be2]) hr] at h
  exact h

/-! ### Read -/
theorem bytes_inj {x y : List Int} (hx : x.all byteB = true) (hy : y.all byteB = true) (h : (strOfNums x).toList = (strOfNums y).toList) : x = y := by
  rw [Lib.strOfNums_toList, Lib.strOfNums_toList] at h
  unfold Lib.bytesOf at h
  induction x generalizing y with
  | nil => cases y with
    | nil => rfl
    | cons b y => simp at h
  | cons a x ih => cases y with
    | nil => simp at h
    | cons b y =>
      simp only [List.map_cons, List.cons.injEq] at h
      simp only [List.all_cons, Bool.and_eq_true, byteB, decide_eq_true_eq] at hx hy
      have e := congrArg UInt8.toNat h.1
      simp only [UInt8.toNat_ofNat'] at e
      have : a = b := by omega
      rw [this, ih hx.2 hy.2 h.2]
theorem all_app2 {a b : List Int} (h1 : a.all byteB = true) (h2 : b.all byteB = true) : (a ++ b).all byteB = true := by simp [List.all_append, h1, h2]
theorem be_all2 (x : Int) (n : Nat) : (be x n).all byteB = true := by
  rw [List.all_eq_true]
  intro c hc
  simp only [be, List.mem_map] at hc
  obtain ⟨i, _, rfl⟩ := hc
  simp [byteB]; omega
theorem flat_all {α : Type} {f : α → List Int} (h : ∀ x, (f x).all byteB = true) : ∀ l : List α, (l.flatMap f).all byteB = true
  | [] => rfl
  | x :: r => by rw [List.flatMap_cons]; exact all_app2 (h x) (flat_all h r)
theorem dif_all (d : Int) : (dif d).all byteB = true := by
  unfold dif
  split
  · rfl
  · split
    · exact be_all2 _ _
    · split <;> exact be_all2 _ _
theorem rle_all : ∀ (k : Nat) (l : List Int), (rleN k l).all byteB = true
  | 0, _ => rfl
  | k + 1, [] => rfl
  | k + 1, f :: r => by
    rw [rleN]
    refine all_app2 ?_ (rle_all k _)
    split
    · exact be_all2 _ _
    · exact all_app2 (be_all2 _ _) (be_all2 _ _)
theorem wrO_all (cs : List (List Pt)) (ps : List Pr) : (wrO cs ps).1.all byteB = true := by
  unfold wrO
  split
  · split
    · exact all_app2 (all_app2 (be_all2 _ _) (be_all2 _ _)) (flat_all (fun p => all_app2 (all_app2 (be_all2 _ _) (be_all2 _ _)) (be_all2 _ _)) _)
    · split
      · exact all_app2 (all_app2 (all_app2 (all_app2 (be_all2 _ _) (flat_all (fun e => be_all2 _ _) _)) (rle_all _ _)) (flat_all dif_all _)) (flat_all dif_all _)
      · rfl
  · rfl
theorem wrO_zero {cs : List (List Pt)} {ps : List Pr} {b : List Int} (h : wrO cs ps = (b, 0)) : fmO cs ps = true ∧ (if 0 < ps.length then b = wrP ps else ps = [] ∧ b = wrC cs ∧ (stp 0 0 cs.flatten).all okS = true) := by
  unfold wrO at h
  split at h
  · rename_i hf
    refine ⟨hf, ?_⟩
    split at h
    · rename_i hp
      rw [if_pos hp]
      exact (congrArg Prod.fst h).symm
    · rename_i hp
      rw [if_neg hp]
      split at h
      · rename_i ho
        exact ⟨List.eq_nil_of_length_eq_zero (by omega), (congrArg Prod.fst h).symm, ho⟩
      · exact absurd (show (4 : Int) = 0 from congrArg Prod.snd h) (by decide)
  · exact absurd (show (1 : Int) = 0 from congrArg Prod.snd h) (by decide)
theorem Write_f {cs : List (List Pt)} {ps : List Pr} (h : ∀ c ∈ cs, c.length ≤ 1000000000000) : outline_Write.f cs ps = some (wrO cs ps) := by
  unfold outline_Write.f
  rw [if_pos (List.all_eq_true.2 fun c hc => decide_eq_true (h c hc))]
theorem j1_ev {b : List Int} (hb : b.all byteB = true) (cs : List (List Pt)) (ps : List Pr) (h : ∀ c ∈ cs, c.length ≤ 1000000000000) : Ev (fun k => outline_Read.j1 k b cs ps) (if wrO cs ps = (b, 0) then (cs, ps, 0) else ([], [], 2)) := by
  refine Ev.step (fun k => by rw [outline_Read.j1, Write_f h, Option.bind_some]) ?_
  by_cases h0 : (wrO cs ps).2 = 0
  · by_cases he : (wrO cs ps).1 = b
    · rw [if_pos (Prod.ext he h0)]
      exact Ev.congr (fun k => by rw [if_pos h0, bytes_Equal.f, he, Option.bind_some, if_pos (by simp)]) (Ev.now _)
    · rw [if_neg (fun e => he (congrArg Prod.fst e))]
      have hne : ¬ (((strOfNums b).toList == (strOfNums (wrO cs ps).1).toList) = true) := fun h => he (bytes_inj hb (wrO_all cs ps) (by simpa using h)).symm
      exact Ev.congr (fun k => by rw [if_pos h0, bytes_Equal.f, Option.bind_some, if_neg hne]) (Ev.now _)
  · rw [if_neg (fun e => h0 (congrArg Prod.snd e))]
    exact Ev.congr (fun k => by rw [if_neg h0]) (Ev.now _)
/-- All bytes are read, or refused. -/
theorem read_or {b : List Int} (hb : b.all byteB = true) : Ev (fun k => outline_Read.f k b) ([], [], 2) ∨ ∃ (cs : List (List Pt)) (ps : List Pr), Ev (fun k => outline_Read.f k b) (cs, ps, 0) ∧ wrO cs ps = (b, 0) ∧ (∀ c ∈ cs, c.length ≤ 1000) := by
  have no (n : Int) : Ev (fun k => outline_Read.j0 k b n true) ([], [], 2) := Ev.step (fun k => by rw [outline_Read.j0, if_pos rfl]) (Ev.now _)
  have hr := i16P_range hb 0
  unfold outline_Read.f
  simp only [i16_eq hb, Option.bind_some]
  generalize i16P b 0 = q at hr
  cases h2 : q.2 with
  | false => left; exact Ev.congr (fun k => by rw [if_neg (by decide)]) (no _)
  | true =>
    simp only [if_true]
    by_cases h3 : q.1 < -1
    · left; simp only [if_pos h3]; exact no _
    · simp only [if_neg h3]
      by_cases h4 : q.1 > 10
      · left; rw [decide_eq_true h4]; exact no _
      · rw [decide_eq_false h4]
        by_cases h5 : q.1 = -1
        · have hp := parts_ev2 hb
          have hj := j1_ev hb [] ((List.range' 0 (min (fieldP b 2 2).1.toNat 6)).map (prP b)) (by simp)
          have hall : Ev (fun k => outline_Read.j0 k b q.1 false) _ := Ev.step (fun k => by rw [outline_Read.j0, if_neg (by decide), if_pos h5]) (Ev.bind hp hj)
          by_cases he : wrO [] ((List.range' 0 (min (fieldP b 2 2).1.toNat 6)).map (prP b)) = (b, 0)
          · rw [if_pos he] at hall
            exact .inr ⟨_, _, hall, he, by simp⟩
          · rw [if_neg he] at hall
            exact .inl hall
        · obtain ⟨n, hn⟩ : ∃ n : Nat, q.1 = (n : Int) := ⟨q.1.toNat, by omega⟩
          obtain ⟨p, hp, hl, h7⟩ := contours_tot hb n (by omega)
          have hj := j1_ev hb p.1 p.2 (fun c hc => by have := hl c hc; omega)
          have hall : Ev (fun k => outline_Read.j0 k b q.1 false) _ := Ev.step (fun k => by rw [outline_Read.j0, if_neg (by decide), if_neg h5, hn]) (Ev.bind hp hj)
          by_cases he : wrO p.1 p.2 = (b, 0)
          · rw [if_pos he] at hall
            exact .inr ⟨_, _, hall, he, hl⟩
          · rw [if_neg he] at hall
            exact .inl hall
/-- THE ROUND TRIP, whatever stands behind. -/
theorem read_rt {cs : List (List Pt)} {ps : List Pr} {w : List Int} (h : wrO cs ps = (w, 0)) {rest : List Int} (hrb : rest.all byteB = true) : Ev (fun k => outline_Read.f k (w ++ rest)) (if rest = [] then (cs, ps, 0) else ([], [], 2)) := by
  have hw : w.all byteB = true := by have := wrO_all cs ps; rw [h] at this; exact this
  have hb : (w ++ rest).all byteB = true := all_app2 hw hrb
  obtain ⟨hf, hz⟩ := wrO_zero h
  have hfa := fmO_facts hf
  have hcl : ∀ c ∈ cs, c.length ≤ 1000000000000 := fun c hc => by have := (hfa.ne c hc).2; omega
  have hj := j1_ev hb cs ps hcl
  have hif : (if wrO cs ps = (w ++ rest, 0) then (cs, ps, (0 : Int)) else ([], [], 2)) = (if rest = [] then (cs, ps, 0) else ([], [], 2)) := by
    rw [h]
    by_cases hr : rest = []
    · rw [hr, List.append_nil, if_pos rfl, if_pos rfl]
    · rw [if_neg hr, if_neg (fun e => hr (by
        have e1 : w = w ++ rest := congrArg Prod.fst e
        have e2 := congrArg List.length e1
        rw [List.length_append] at e2
        exact List.eq_nil_of_length_eq_zero (by omega)))]
  rw [hif] at hj
  unfold outline_Read.f
  split at hz
  · rename_i hp
    have hc0 : cs = [] := by
      rcases hfa.one with h1 | h1
      · exact h1
      · rw [h1] at hp; simp at hp
    have e := sign2 (b := w ++ rest) (P := []) (x := -1) (a := 0) (R := be (ps.length : Int) 2 ++ (ps.flatMap parB ++ rest)) (by rw [hz]; simp only [wrP, List.append_assoc, List.nil_append]) rfl (by omega) (by omega)
    have hpr := parts_rt hb ps hfa.par hfa.prs (rest := rest) (by rw [hz])
    refine Ev.congr (fun k => by rw [i16_eq hb, e, Option.bind_some, if_pos rfl, if_neg (by decide), decide_eq_false (show ¬ ((-1 : Int) > 10) by decide)]) ?_
    refine Ev.step (fun k => by rw [outline_Read.j0, if_neg (by decide), if_pos rfl]) ?_
    rw [hc0] at hj ⊢
    exact Ev.bind hpr hj
  · obtain ⟨h1, h2, h3⟩ := hz
    subst h1
    have hm := hfa.con
    have e := sign2 (b := w ++ rest) (P := []) (x := (cs.length : Int)) (a := 0) (R := (endsO cs (-1)).flatMap (fun e => be e 2) ++ (rle ((stp 0 0 cs.flatten).map flagOf) ++ (((stp 0 0 cs.flatten).map (·.1)).flatMap dif ++ (((stp 0 0 cs.flatten).map (·.2.1)).flatMap dif ++ rest)))) (by rw [h2]; simp only [wrC, List.append_assoc, List.nil_append]) rfl (by omega) (by omega)
    have hct := contours_rt hb cs hfa h3 (rest := rest) (by rw [h2])
    refine Ev.congr (fun k => by rw [i16_eq hb, e, Option.bind_some, if_pos rfl, if_neg (by simp only; omega), decide_eq_false (show ¬ ((cs.length : Int) > 10) by omega)]) ?_
    refine Ev.step (fun k => by rw [outline_Read.j0, if_neg (by decide), if_neg (by simp only; omega)]) ?_
    exact Ev.bind hct hj
theorem Ev.uniq {α : Type} {g : Nat → Option α} {a b : α} (h1 : Ev g a) (h2 : Ev g b) : a = b := by
  obtain ⟨K1, h1⟩ := h1
  obtain ⟨K2, h2⟩ := h2
  exact Option.some.inj ((h1 (max K1 K2) (Nat.le_max_left _ _)).symm.trans (h2 (max K1 K2) (Nat.le_max_right _ _)))
end Go.Proofs.Ytmppdgjnibamlab.Pag
