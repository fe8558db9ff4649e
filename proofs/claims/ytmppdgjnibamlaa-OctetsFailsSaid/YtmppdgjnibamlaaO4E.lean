/- A page and two rows of whole numbers beside it, all of the call's own. -/
import Derived.Test.YtmppdgjnibamlaaO4P
import Derived.Test.YtmppdgjnibamlaaPgL
namespace Go.Proofs.Ytmppdgjnibamlaa.Pag
open Go.RowKit Go.Proofs.YtmppdgjnibamlaaW.PrintWords
set_option linter.unusedVariables false
set_option linter.unusedSimpArgs false

def Three (w0 wr : World) (base g : Nat) (B Wt : List Int) (fl : Bool) (v : Value) (xs : List Int) (u : Value) (ys : List Int) : Prop :=
  ∃ ok, Pg wr base ok g B Wt fl ∧ wr.ownsRow base 3 1 v xs.length (nums .i64 xs) ∧ wr.ownsRow base 3 1 u ys.length (nums .i64 ys) ∧
    (∀ k, v.ownBlock = some k → ¬ ok k) ∧ (∀ k, u.ownBlock = some k → ¬ ok k) ∧ (∀ k, v.ownBlock = some k → u.ownBlock ≠ some k) ∧ Below base w0 wr

section
variable {w0 wr w1 : World} {base g : Nat} {B Wt B1 Wt1 : List Int} {fl fl1 : Bool} {v u : Value} {xs ys : List Int}
theorem Three.base_le (h : Three w0 wr base g B Wt fl v xs u ys) : base ≤ wr.heap.size := by
  obtain ⟨ok, h1, -⟩ := h
  exact h1.base_le
theorem Three.bel (h : Three w0 wr base g B Wt fl v xs u ys) : Below base w0 wr := by
  obtain ⟨ok, h1, h2, h3, h4, h5, h6, h7⟩ := h
  exact h7
theorem Three.pg (h : Three w0 wr base g B Wt fl v xs u ys) : ∃ ok, Pg wr base ok g B Wt fl := by
  obtain ⟨ok, h1, -⟩ := h
  exact ⟨ok, h1⟩
theorem Three.own1 (h : Three w0 wr base g B Wt fl v xs u ys) : wr.ownsRow base 3 1 v xs.length (nums .i64 xs) := by
  obtain ⟨ok, h1, h2, -⟩ := h
  exact h2
theorem Three.own2 (h : Three w0 wr base g B Wt fl v xs u ys) : wr.ownsRow base 3 1 u ys.length (nums .i64 ys) := by
  obtain ⟨ok, h1, h2, h3, -⟩ := h
  exact h3
theorem Three.start {ok : Nat → Prop} (h : Pg wr base ok g B Wt fl) (hb : Below base w0 wr) : Three w0 wr base g B Wt fl (.slice none 0 0) [] (.slice none 0 0) [] :=
  ⟨ok, h, own_nil _ _ _ _, own_nil _ _ _ _, fun k hk => by simp [Value.ownBlock] at hk, fun k hk => by simp [Value.ownBlock] at hk, fun k hk => by simp [Value.ownBlock] at hk, hb⟩
/-- A call on the page. -/
theorem Three.call (h : Three w0 wr base g B Wt fl v xs u ys) {n : Nat} {args : Array Value} {E : Ending} (hc : ∀ ok, Pg wr base ok g B Wt fl → Calls Try.prog n args wr fun e w' => e = E ∧ Pst base ok wr w' g B1 Wt1 fl1) :
    Calls Try.prog n args wr fun e w' => e = E ∧ Three w0 w' base g B1 Wt1 fl1 v xs u ys := by
  obtain ⟨ok, h1, h2, h3, h4, h5, h6, h7⟩ := h
  refine (hc ok h1).mono fun e w' ⟨he, hP⟩ => ⟨he, ⟨_, hP.pg, own_move h2 fun k e => hP.kept.2 k (own_lt h2 k e) (h4 k e), own_move h3 fun k e => hP.kept.2 k (own_lt h3 k e) (h5 k e), fun k e hk => ?_, fun k e hk => ?_, h6, h7.trans hP.below⟩⟩
  · rcases hk with hk | hk
    · exact h4 k e hk
    · have := own_lt h2 k e
      omega
  · rcases hk with hk | hk
    · exact h5 k e hk
    · have := own_lt h3 k e
      omega
theorem Three.below (h : Three w0 wr base g B Wt fl v xs u ys) (hb : Below wr.heap.size wr w1) : Three w0 w1 base g B Wt fl v xs u ys := by
  have hbase := h.base_le
  obtain ⟨ok, h1, h2, h3, h4, h5, h6, h7⟩ := h
  exact ⟨ok, h1.below hb, pw_own_below h2 hb, pw_own_below h3 hb, h4, h5, h6, below_then h7 hbase hb⟩
/-- An append to the first row. -/
theorem Three.app1 (h : Three w0 wr base g B Wt fl v xs u ys) {v1 : Value} {zs : List Int} (ho : w1.ownsRow base 3 1 v1 zs.length (nums .i64 zs)) (hB : Below base w0 w1) (hg : wr.grownBy w1 v.ownBlock)
    (hat : v1.ownBlock = v.ownBlock ∨ ∃ b, v1.ownBlock = some b ∧ wr.heap.size ≤ b) : Three w0 w1 base g B Wt fl v1 zs u ys := by
  obtain ⟨ok, h1, h2, h3, h4, h5, h6, h7⟩ := h
  refine ⟨_, h1.bound.grown hg (fun k hk e => h4 k e.symm hk.1), ho, own_move h3 fun k e => hg.block k (own_lt h3 k e) (fun e2 => h6 k e2.symm e), fun k e hk => ?_, fun k e hk => h5 k e hk.1, fun k e => ?_, hB⟩
  · rcases hat with hat | ⟨b, hat, hle⟩
    · exact h4 k (hat ▸ e) hk.1
    · rw [hat] at e
      have : b = k := by simpa using e
      omega
  · rcases hat with hat | ⟨b, hat, hle⟩
    · exact h6 k (hat ▸ e)
    · rw [hat] at e
      have : b = k := by simpa using e
      intro e2
      have := own_lt h3 k e2
      omega
theorem Three.swap (h : Three w0 wr base g B Wt fl v xs u ys) : Three w0 wr base g B Wt fl u ys v xs := by
  obtain ⟨ok, h1, h2, h3, h4, h5, h6, h7⟩ := h
  exact ⟨ok, h1, h3, h2, h5, h4, fun k e e2 => h6 k e2 e, h7⟩
end

/-! The plain part. -/
def marksOf (n : Nat) : List Int := (List.range n).map fun k : Nat => 1 + 4 * (k : Int)
theorem marks_length (n : Nat) : (marksOf n).length = n := by simp [marksOf]
theorem marks_succ (n : Nat) : marksOf (n + 1) = marksOf n ++ [1 + 4 * (n : Int)] := by simp [marksOf, List.range_succ]
theorem marks_rd (n j : Nat) (h : j < n) : rd (marksOf n) (j : Int) = 1 + 4 * (j : Int) := by simp [rd, marksOf, h]
def steps (c : Nat) : List Int := (List.range c).map fun k : Nat => (k : Int)
theorem steps_length (c : Nat) : (steps c).length = c := by simp [steps]
theorem steps_succ (c : Nat) : steps (c + 1) = steps c ++ [(c : Int)] := by simp [steps, List.range_succ]
theorem steps_bytes (c : Nat) (h : c ≤ 256) : (steps c).all byteB = true := by
  rw [List.all_eq_true]
  intro x hx
  simp only [steps, List.mem_map, List.mem_range] at hx
  obtain ⟨k, hk, rfl⟩ := hx
  simp [byteB]
  omega
/-- How many bytes part i puts. -/
def cnt (l : List Int) (i : Nat) : Nat := (rd l (i : Int) % 20).toNat
/-- The page's bytes ahead of part i; and what is behind its bytes when the offset is laid down. -/
def filled (l : List Int) : Nat → List Int
  | 0 => 1 :: List.replicate (4 * l.length) 0
  | i + 1 => store4 (filled l i ++ steps (cnt l i)) (1 + 4 * i) (((filled l i ++ steps (cnt l i)).length : Int) - 1) 4
def placeL (l : List Int) (i : Nat) : Int := ((filled l i ++ steps (cnt l i)).length : Int) - 1
def placesL (l : List Int) (n : Nat) : List Int := (List.range n).map fun i => placeL l i
theorem placesL_length (l : List Int) (n : Nat) : (placesL l n).length = n := by simp [placesL]
theorem placesL_succ (l : List Int) (n : Nat) : placesL l (n + 1) = placesL l n ++ [placeL l n] := by simp [placesL, List.range_succ]
theorem placesL_rd (l : List Int) (n j : Nat) (h : j < n) : rd (placesL l n) (j : Int) = placeL l j := by simp [rd, placesL, h]
theorem cnt_lt (l : List Int) (i : Nat) : cnt l i < 20 := by unfold cnt; omega
theorem filled_length (l : List Int) (i : Nat) : 1 + 4 * l.length ≤ (filled l i).length ∧ (filled l i).length ≤ 1 + 4 * l.length + 19 * i := by
  induction i with
  | zero => simp [filled]; omega
  | succ i ih =>
    have := cnt_lt l i
    simp only [filled, store4_length, List.length_append, steps_length]
    omega
theorem set_bytes {B : List Int} (h : B.all byteB = true) (m : Nat) (x : Int) : (B.set m (x % 256)).all byteB = true := by
  rw [List.all_eq_true] at h ⊢
  intro y hy
  rcases List.mem_or_eq_of_mem_set hy with hy | hy
  · exact h y hy
  · rw [hy]; exact byteB_mod x
theorem store4_bytes {B : List Int} (h : B.all byteB = true) (m : Nat) (x : Int) (i : Nat) : (store4 B m x i).all byteB = true := by
  induction i with
  | zero => exact h
  | succ i ih => exact set_bytes ih _ _
theorem filled_bytes (l : List Int) (i : Nat) : (filled l i).all byteB = true := by
  induction i with
  | zero => simp [filled, byteB]
  | succ i ih => exact store4_bytes (all_append ih (steps_bytes _ (by have := cnt_lt l i; omega))) _ _ _
theorem store4_at (B : List Int) (m : Nat) (x : Int) (q i : Nat) (hq : q < B.length) : (store4 B m x i)[q]? = if m ≤ q ∧ q < m + i then some (x / 2 ^ (24 - 8 * (q - m)) % 256) else B[q]? := by
  induction i with
  | zero => rw [if_neg (by omega)]; rfl
  | succ i ih =>
    simp only [store4]
    rw [List.getElem?_set, store4_length]
    by_cases h : m + i = q
    · subst h
      rw [if_pos rfl, if_pos hq, if_pos ⟨by omega, by omega⟩, show m + i - m = i by omega]
    · rw [if_neg h, ih]
      by_cases h2 : m ≤ q ∧ q < m + i
      · rw [if_pos h2, if_pos ⟨h2.1, by omega⟩]
      · rw [if_neg h2, if_neg (by omega)]
/-- The four bytes of an offset that was laid down. -/
theorem filled_at (l : List Int) (i q : Nat) (hq : q < 4) : ∀ j, i < j → j ≤ l.length → (filled l j)[1 + 4 * i + q]? = some (placeL l i / 2 ^ (24 - 8 * q) % 256) := by
  intro j
  induction j with
  | zero => intro h; omega
  | succ j ih =>
    intro h1 h2
    have hl := filled_length l j
    simp only [filled]
    rw [store4_at _ _ _ _ _ (by rw [List.length_append]; omega)]
    rcases Nat.lt_or_ge i j with h3 | h3
    · rw [if_neg (by omega), List.getElem?_append_left (by omega)]
      exact ih h3 (by omega)
    · have : i = j := by omega
      subst this
      rw [if_pos ⟨by omega, by omega⟩, show 1 + 4 * i + q - (1 + 4 * i) = q by omega]
      rfl
theorem placeL_range (l : List Int) (i : Nat) (hl : l.length ≤ 100) (hi : i < l.length) : 0 ≤ placeL l i ∧ placeL l i < 4294967296 := by
  have h := filled_length l i
  have := cnt_lt l i
  unfold placeL
  rw [List.length_append, steps_length]
  omega
theorem later_U32 (l : List Int) (i : Nat) (hl : l.length ≤ 100) (hi : i < l.length) : octets_U32.f (filled l l.length) (1 + 4 * (i : Int)) = some (placeL l i, true) := by
  have h := filled_length l l.length
  have r := placeL_range l i hl hi
  unfold octets_U32.f octets_field.f
  rw [if_pos ⟨filled_bytes _ _, by omega, by omega⟩, if_neg (by omega), show (1 + 4 * (i : Int)).toNat = 1 + 4 * i by omega]
  have e : ((filled l l.length).drop (1 + 4 * i)).take (4 : Int).toNat = [placeL l i / 16777216 % 256, placeL l i / 65536 % 256, placeL l i / 256 % 256, placeL l i % 256] := by
    apply List.ext_getElem?
    intro q
    rw [List.getElem?_take, List.getElem?_drop]
    rcases Nat.lt_or_ge q 4 with hq | hq
    · rw [if_pos (by simpa using hq), filled_at l i q hq l.length hi (Nat.le_refl _)]
      obtain rfl | rfl | rfl | rfl : q = 0 ∨ q = 1 ∨ q = 2 ∨ q = 3 := by omega
      all_goals simp
    · rw [if_neg (by simp; omega), List.getElem?_eq_none (by simpa using hq)]
  rw [e, numBE4]
  simp only [Option.some.injEq, Prod.mk.injEq, and_true]
  omega
end Go.Proofs.Ytmppdgjnibamlaa.Pag
