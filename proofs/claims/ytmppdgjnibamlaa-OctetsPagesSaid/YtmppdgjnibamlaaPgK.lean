/- Contracts of slices.Index at []int, and of what Now of octets.Page does: the wait struck, the offset stored. -/
import Derived.Test.YtmppdgjnibamlaaPgH
import Derived.Test.YtmppdgjnibamlaaShelfDelete
import Derived.Sort.OwnSortedInts
namespace Go.Proofs.Ytmppdgjnibamlaa.Pag
open Go.RowKit Go.Proofs.YtmppdgjnibamlaaW.PrintWords
set_option linter.unusedVariables false
set_option linter.unusedSimpArgs false

/-- The first place from i on that holds v, or -1. -/
def idxFrom (l : List Int) (v : Int) : Nat → Nat → Int
  | 0, _ => -1
  | d + 1, i => if v = rd l (i : Int) then (i : Int) else idxFrom l v d (i + 1)
def idx (l : List Int) (v : Int) : Int := idxFrom l v l.length 0

set_option maxHeartbeats 1000000 in
set_option maxRecDepth 100000 in
theorem Index_calls (A0 : Option Addr) (c0 : Nat) (l0 : List Int) (v : Int) (w : World) (hr0 : Kd.C (Kd.int .i64) w A0 l0.length l0) :
    Calls Try.prog 66 #[.slice A0 l0.length c0, .int .i64 v] w fun e w' => e = .returned (.int .i64 (idx l0 v)) ∧ w = w' := by
  have HR := Aside0.mk (C_reads hr0)
  have hlen : (l0.length : Int) ≤ 9223372036854775807 := by have := hr0.2.1; omega
  clear hr0
  go_enter Try.func66, Try.ntmps66
  go_wp2
  go_loop [8] (fun u => ∃ i : Nat, u = .int .i64 (i : Int) ∧ i ≤ l0.length ∧ Aside0 (idx l0 v = idxFrom l0 v (l0.length - i) i)) (fun u => l0.length - (intOf u).toNat)
  case atStart => exact ⟨0, rfl, by omega, ⟨rfl⟩⟩
  case round =>
    obtain ⟨i, rfl, hi, HS⟩ := hrel
    by_cases hlt : i < l0.length
    · have HQ := Aside0.mk (show idxFrom l0 v (l0.length - i) i = if v = rd l0 (i : Int) then (i : Int) else idxFrom l0 v (l0.length - (i + 1)) (i + 1) by
        obtain ⟨d, hd⟩ : ∃ d, l0.length - i = d + 1 := ⟨l0.length - i - 1, by omega⟩
        rw [hd, show l0.length - (i + 1) = d by omega]; rfl)
      obtain ⟨ad, had, hcell⟩ := HR.out.at_ (i : Int) (by omega) (by omega)
      subst had
      simp only [Int.toNat_natCast] at hcell
      by_cases h1 : v = rd l0 (i : Int)
      · have HF := Aside0.mk (show idx l0 v = (i : Int) by rw [HS.out, HQ.out, if_pos h1])
        have hb : (v == rd l0 (i : Int)) = true := beq_iff_eq.2 h1
        clear h1
        go_wp2
        go_ret
        exact ⟨by rw [HF.out]; rfl, rfl⟩
      · have HF := Aside0.mk (show idx l0 v = idxFrom l0 v (l0.length - (i + 1)) (i + 1) by rw [HS.out, HQ.out, if_neg h1])
        have hb : (v == rd l0 (i : Int)) = false := beq_eq_false_iff_ne.2 h1
        clear h1
        go_wp2
        go_round
        case rel => exact ⟨i + 1, by go_num, by omega, HF⟩
        case measure => simp [intOf]; omega
    · have HF := Aside0.mk (show idx l0 v = -1 by rw [HS.out, show l0.length - i = 0 by omega]; rfl)
      go_wp2
      go_ret
      exact ⟨by rw [HF.out]; rfl, rfl⟩

theorem idxFrom_cases (l : List Int) (v : Int) : ∀ d i : Nat, i + d = l.length → (idxFrom l v d i = -1 ∧ ∀ j : Nat, i ≤ j → j < l.length → v ≠ rd l (j : Int)) ∨ ∃ j : Nat, i ≤ j ∧ j < l.length ∧ idxFrom l v d i = (j : Int) ∧ v = rd l (j : Int) ∧ ∀ k : Nat, i ≤ k → k < j → v ≠ rd l (k : Int) := by
  intro d
  induction d with
  | zero => intro i hi; exact .inl ⟨rfl, fun j h1 h2 => by omega⟩
  | succ d ih =>
    intro i hi
    by_cases h : v = rd l (i : Int)
    · exact .inr ⟨i, by omega, by omega, by simp only [idxFrom]; rw [if_pos h], h, fun k h1 h2 => by omega⟩
    · have e : idxFrom l v (d + 1) i = idxFrom l v d (i + 1) := by simp only [idxFrom]; rw [if_neg h]
      rw [e]
      rcases ih (i + 1) (by omega) with ⟨h1, h2⟩ | ⟨j, h1, h2, h3, h4, h5⟩
      · exact .inl ⟨h1, fun j a b => by
          rcases Nat.lt_or_ge i j with c | c
          · exact h2 j (by omega) b
          · have : j = i := by omega
            subst this
            exact h⟩
      · exact .inr ⟨j, by omega, h2, h3, h4, fun k a b => by
          rcases Nat.lt_or_ge i k with c | c
          · exact h5 k (by omega) b
          · have : k = i := by omega
            subst this
            exact h⟩
theorem idx_cases (l : List Int) (v : Int) : (idx l v = -1 ∧ v ∉ l) ∨ ∃ j : Nat, j < l.length ∧ idx l v = (j : Int) ∧ v = rd l (j : Int) ∧ ∀ k : Nat, k < j → v ≠ rd l (k : Int) := by
  rcases idxFrom_cases l v l.length 0 (by omega) with ⟨h1, h2⟩ | ⟨j, h1, h2, h3, h4, h5⟩
  · refine .inl ⟨h1, fun hm => ?_⟩
    obtain ⟨j, hj, he⟩ := List.getElem_of_mem hm
    exact h2 j (by omega) hj (by rw [← he]; simp [rd, hj])
  · exact .inr ⟨j, h2, h3, h4, fun k a => h5 k (by omega) a⟩

/-- A row of whole numbers of the call's own, an element struck in its place. -/
theorem del_calls {w : World} {base gw cap k : Nat} {Wt : List Int} (h : w.ownsRow base 3 1 (.slice (some ⟨gw, 0, none⟩) Wt.length cap) Wt.length (nums .i64 Wt)) (hk : k < Wt.length) :
    Calls Try.prog 67 #[.slice (some ⟨gw, 0, none⟩) Wt.length cap, .int .i64 (k : Int), .int .i64 ((k : Int) + 1)] w fun e w' =>
      e = .returned (.slice (some ⟨gw, 0, none⟩) (Wt.length - 1) cap) ∧ w'.ownsRow base 3 1 (.slice (some ⟨gw, 0, none⟩) (Wt.length - 1) cap) (Wt.eraseIdx k).length (nums .i64 (Wt.eraseIdx k)) ∧ w.grownBy w' (some gw) := by
  have hh := h
  rcases h.2 with ⟨h0, _⟩ | ⟨g', cap', cur, hv, hbase, hb, hn, hcap, hcs, htake⟩
  · cases h0
  cases hv
  have hcs' : cur.size = cap := by simpa using hcs
  have hH : Sort.Holds (Value.int .i64) w gw 0 Wt.toArray := by
    intro j hj
    have hj' : j < Wt.length := by simpa using hj
    refine ⟨?_, by simp [World.frozen?, hb]⟩
    have := h.cells (g := gw) rfl j (.int .i64 Wt[j]) (by simp [nums, List.getElem?_eq_getElem hj'])
    rw [add_plain] at this
    rw [Nat.zero_add, this]
    simp [hj']
  have hm : cap ≤ 9223372036854775807 := by simpa [maxLen] using hcap
  have hc := Try.slices_Delete_int gw 0 cap k (k + 1) Wt w hH hn hm (by omega) (by omega)
  rw [show ((k + 1 : Nat) : Int) = (k : Int) + 1 by simp] at hc
  refine hc.mono fun e w' ⟨he, q, hw⟩ => ?_
  have e1 : Wt.length - (k + 1 - k) = Wt.length - 1 := by omega
  rw [e1] at he
  obtain ⟨ts, hts⟩ : ∃ ts, Wt.take k ++ Wt.drop (k + 1) ++ List.replicate (k + 1 - k) 0 = ts := ⟨_, rfl⟩
  rw [hts] at hw
  have htl : ts.length = Wt.length := by
    rw [← hts]
    simp only [List.length_append, List.length_take, List.length_drop, List.length_replicate]
    omega
  have her : Wt.eraseIdx k = ts.take (Wt.length - 1) := by
    rw [← hts, List.eraseIdx_eq_take_drop_succ]
    exact (List.take_left' (by simp only [List.length_append, List.length_take, List.length_drop]; omega)).symm
  have hw2 : w' = Sort.grow (Sort.putRow (Value.int .i64) (Sort.ahead w q) gw 0 ts.toArray) #[] := by rw [hw, Sort.grow_empty]
  have herl : (Wt.eraseIdx k).length = Wt.length - 1 := by rw [her, List.length_take]; omega
  refine ⟨he, ⟨by simp [nums], .inr ⟨gw, cap, Sort.putCells (Value.int .i64) 0 ts.toArray cur, by rw [herl], hbase, ?_, by rw [herl]; omega, hcap, ?_, ?_⟩⟩, ?_⟩
  · rw [hw2]; exact heap_sortedI _ hb
  · simp [Sort.putCells, hcs']
  · have ht := take_putCellsI cur ts (by omega)
    rw [Nat.mul_one, herl, her, nums, List.map_take, show (List.map (fun x => Value.int .i64 x) ts) = List.map (Value.int .i64) ts from rfl, ← ht, List.take_take]
    congr 1
    omega
  · rw [hw2]; exact grownBy_sortedI _

/-- The page's struct after the wait has been struck: the store of the slice. -/
theorem Pst.struck {w w1 w2 : World} {base g gw cap k : Nat} {ok : Nat → Prop} {B Wt : List Int} {fl : Bool}
    (hP : Pst base ok w w1 g B Wt fl) (hc : w1.cell? ⟨g, 1, none⟩ = some (.slice (some ⟨gw, 0, none⟩) Wt.length cap))
    (hown : w2.ownsRow base 3 1 (.slice (some ⟨gw, 0, none⟩) (Wt.length - 1) cap) (Wt.eraseIdx k).length (nums .i64 (Wt.eraseIdx k))) (hg : w1.grownBy w2 (some gw)) :
    Pst base ok w (w2.setCell ⟨g, 1, none⟩ (.slice (some ⟨gw, 0, none⟩) (Wt.length - 1) cap)) g B (Wt.eraseIdx k) fl ∧ (∃ c, w2.cell? ⟨g, 1, none⟩ = some c) ∧ w2.frozen? ⟨g, 1, none⟩ = false :=
  wait_now hP hc (Below.refl _ _) hown hg (fun j hj => .inl hj)

theorem Pst.drew {w w1 : World} {base g : Nat} {ok : Nat → Prop} {B Wt : List Int} {fl : Bool} (h : Pst base ok w w1 g B Wt fl) : Pst base ok w w1.drew g B Wt fl := ⟨h.pg.drew, h.kept.drew, h.below.drew⟩
/-- One byte of a page stored. -/
theorem Pst.stored {w w1 : World} {base g gb cap j : Nat} {ok : Nat → Prop} {B Wt : List Int} {fl : Bool}
    (hP : Pst base ok w w1 g B Wt fl) (hc : w1.cell? ⟨g, 0, none⟩ = some (.slice (some ⟨gb, 0, none⟩) B.length cap)) (y : Int) :
    Pst base ok w (w1.setCell ⟨gb, j, none⟩ (.int .u8 y)) g (B.set j y) Wt fl := by
  obtain ⟨u1, u2, hb, h1, h2, h3, h4, h5, h6⟩ := hP.pg
  have e : u1 = .slice (some ⟨gb, 0, none⟩) B.length cap := by
    have := (blk_cell hb 0).symm.trans hc
    simpa using this
  subst e
  have hne : g ≠ gb := fun e => by
    obtain ⟨cs, hcs⟩ := own_typed h3 gb (by simp [Value.ownBlock])
    subst e
    rw [hb] at hcs; simp at hcs
  have hd : u2.ownBlock = none ∨ u2.ownBlock ≠ some gb := own_type_ne h4 h3 (by decide)
  have hs := own_store h3 (j : Int) y
  simp only [Int.toNat_natCast] at hs
  have hK : Kept w1 (w1.setCell ⟨gb, j, none⟩ (.int .u8 y)) (fun k => ok k ∨ w.heap.size ≤ k) := (Kept.refl _ _).setCell (.inl (h5 gb (by simp [Value.ownBlock]))) _
  refine hP.trans ⟨⟨_, u2, (blk_grown hb hs.2 (by simpa using hne)), h1, .inl h2, ?_, own_other h4 hs.2 hd, fun k e => .inl (h5 k e), fun k e => .inl (h6 k e)⟩, hK, (Below.refl _ _).setCell (own_base h3 gb (by simp [Value.ownBlock])) _⟩
  have : (B.set j y).length = B.length := by simp
  rw [this]
  exact hs.1

/-- Four bytes of x stored from place m on: after i of them. -/
def store4 (B : List Int) (m : Nat) (x : Int) : Nat → List Int
  | 0 => B
  | i + 1 => (store4 B m x i).set (m + i) (x / 2 ^ (24 - 8 * i) % 256)
theorem store4_length (B : List Int) (m : Nat) (x : Int) (i : Nat) : (store4 B m x i).length = B.length := by
  induction i with
  | zero => rfl
  | succ i ih => simp [store4, ih]
def nowB (fl : Bool) (B Wt : List Int) (mark base : Int) : List Int :=
  if over fl B = true then B else if idx Wt mark < 0 ∨ base > (B.length : Int) ∨ base < -2147483648 then B else store4 B mark.toNat ((B.length : Int) - base) 4
def nowW (fl : Bool) (B Wt : List Int) (mark base : Int) : List Int :=
  if over fl B = true then Wt else if idx Wt mark < 0 ∨ base > (B.length : Int) ∨ base < -2147483648 then Wt else Wt.eraseIdx (idx Wt mark).toNat
def nowF (fl : Bool) (B Wt : List Int) (mark base : Int) : Bool :=
  if over fl B = true then fl else if idx Wt mark < 0 ∨ base > (B.length : Int) ∨ base < -2147483648 then true else fl

theorem cell_zero {w w2 : World} {base g : Nat} {ok : Nat → Prop} {B Wt : List Int} {fl : Bool} {v : Value} (h : Pst base ok w (w2.setCell ⟨g, 1, none⟩ v) g B Wt fl) :
    ∃ A c, w2.cell? ⟨g, 0, none⟩ = some (.slice A B.length c) := by
  obtain ⟨x1, x2, hb, _, _, h3, -⟩ := h.pg
  obtain ⟨A, c, rfl⟩ := own_slice h3
  have e : (w2.setCell ⟨g, 1, none⟩ v).cell? ⟨g, 0, none⟩ = some (.slice A B.length c) := (blk_cell hb 0).trans rfl
  exact ⟨A, c, (World.cell?_setCell_other _ ⟨g, 1, none⟩ ⟨g, 0, none⟩ v (by simp)).symm.trans e⟩

set_option maxHeartbeats 800000 in
set_option maxRecDepth 100000 in
theorem Now_ok {w : World} {base0 g : Nat} {ok : Nat → Prop} {B Wt : List Int} {fl : Bool} (h : Pg w base0 ok g B Wt fl) (m k : Nat) (base : Int) (ho : over fl B = false)
    (hk : k < Wt.length) (hi : idx Wt (m : Int) = (k : Int)) (hb0 : base ≤ (B.length : Int)) (hb1 : -2147483648 ≤ base) (hm : m + 4 ≤ B.length) :
    Calls Try.prog 28 #[.pointer (some ⟨g, 0, none⟩), .int .i64 (m : Int), .int .i64 base] w fun e w' => e = .returned (.tuple #[]) ∧ Pst base0 ok w w' g (store4 B m ((B.length : Int) - base) 4) (Wt.eraseIdx k) fl := by
  have HC := Aside0.mk (over_calls h)
  have HP := Aside0.mk (Pst.refl h)
  have HL2 : Aside0 (B.length ≤ 1048576) := Aside0.mk (by simp [over] at ho; omega)
  obtain ⟨v1, v2, hb, h1, h2, h3, h4, h5, h6⟩ := h
  obtain ⟨A1, c1, rfl⟩ := own_slice h3
  obtain ⟨A2, c2, hv2, hle2, hC2⟩ := Kd.R_reads (own_R h4 (ok := fun _ => True) (fun _ _ => trivial))
  obtain ⟨gw, capw, hv2', hgb, hgl⟩ := h4.form (by omega)
  subst hv2'
  injection hv2 with ha _ hcc2
  subst ha
  subst hcc2
  have C0 : w.cell? ⟨g, 0, none⟩ = some (.slice A1 B.length c1) := (blk_cell hb 0).trans rfl
  have C1 : w.cell? ⟨g, 1, none⟩ = some (.slice (some ⟨gw, 0, none⟩) Wt.length capw) := (blk_cell hb 1).trans rfl
  have hWl : (Wt.length : Int) ≤ 9223372036854775807 := by have := hC2.2.1; omega
  have HI := Aside0.mk (Index_calls (some ⟨gw, 0, none⟩) capw Wt (m : Int) w hC2)
  have HD := Aside0.mk (del_calls h4 hk)
  have HIX := Aside0.mk hi
  have C1A := Aside0.mk C1
  have hBl : (B.length : Int) ≤ 1048576 := by have := HL2.out; omega
  clear hb h1 h2 h3 h4 h5 h6 hle2 hC2 hi hgb hgl
  go_enter Try.func28, Try.ntmps28
  go_wp2_with (first
    | (go_at_call 60; refine HC.out.mono ?_; rintro e w' ⟨rfl, rfl⟩)
    | (go_at_call 66; refine HI.out.mono ?_; rintro e w' ⟨rfl, rfl⟩; rw [HIX.out])
    | (go_at_call 67; refine HD.out.mono ?_; rintro e w2 ⟨rfl, hown, hgrow⟩; have hR := Pst.struck HP.out C1A.out hown hgrow; obtain ⟨cc, hcc⟩ := hR.2.1; have hff := hR.2.2; obtain ⟨A3, c3, C3⟩ := cell_zero hR.1; have HP2 := Aside0.mk hR.1; clear hR hown hgrow C0 C1))
  obtain ⟨X, hX⟩ : ∃ X : Int, (B.length : Int) - base = X := ⟨_, rfl⟩
  rw [hX]
  have HX := Aside0.mk hX
  clear hX
  go_loopw [52] (fun v w1 => ∃ i : Nat, v = .int .i64 (i : Int) ∧ i ≤ 4 ∧ Aside0 (Pst base0 ok w w1 g (store4 B m X i) (Wt.eraseIdx k) fl)) (fun v _ => 4 - (intOf v).toNat)
  case atStart => exact ⟨0, rfl, by omega, HP2⟩
  case round =>
    obtain ⟨i, rfl, hi, HQ⟩ := hrel
    clear C3 hcc hff
    obtain rfl | rfl | rfl | rfl | rfl : i = 0 ∨ i = 1 ∨ i = 2 ∨ i = 3 ∨ i = 4 := by omega
    · obtain ⟨Bi, hBi⟩ : ∃ Bi, store4 B m X 0 = Bi := ⟨_, rfl⟩
      rw [hBi] at HQ
      have hl : Bi.length = B.length := by rw [← hBi, store4_length]
      have HS := Aside0.mk (show Bi.set m (IntKind.u8.wrap (X / 16777216)) = store4 B m X (0 + 1) by rw [← hBi]; simp [store4, u8_wrap])
      obtain ⟨u1, u2, hb, _, _, h3, -⟩ := HQ.out.pg
      obtain ⟨gb, capb, hu1, _, _⟩ := h3.form (by omega)
      subst hu1
      have C0 : wr.cell? ⟨g, 0, none⟩ = some (.slice (some ⟨gb, 0, none⟩) Bi.length capb) := (blk_cell hb 0).trans rfl
      have hat := own_at h3 (m : Int) (by omega) (by omega)
      rw [show (m : Int).toNat = m by omega] at hat
      obtain ⟨C4, F4⟩ := hat
      have n1 : ((m : Int) : Int) < (Bi.length : Int) := by omega
      have n2 : 0 ≤ (m : Int) := by omega
      have n3 : (m : Int).toNat = m := by omega
      have HR := Aside0.mk (HQ.out.stored (j := m) C0 (IntKind.u8.wrap (X / 16777216)))
      clear hBi hl hb h3 HQ
      go_wp2
      go_region
      all_goals
        go_wp2
        go_roundw
        case rel => exact ⟨1, rfl, by omega, ⟨by have := HR.out.drew; rwa [HS.out] at this⟩⟩
        case measure => simp [intOf]
    · obtain ⟨Bi, hBi⟩ : ∃ Bi, store4 B m X 1 = Bi := ⟨_, rfl⟩
      rw [hBi] at HQ
      have hl : Bi.length = B.length := by rw [← hBi, store4_length]
      have HS := Aside0.mk (show Bi.set (m + 1) (IntKind.u8.wrap (X / 65536)) = store4 B m X (1 + 1) by rw [← hBi]; simp [store4, u8_wrap])
      obtain ⟨u1, u2, hb, _, _, h3, -⟩ := HQ.out.pg
      obtain ⟨gb, capb, hu1, _, _⟩ := h3.form (by omega)
      subst hu1
      have C0 : wr.cell? ⟨g, 0, none⟩ = some (.slice (some ⟨gb, 0, none⟩) Bi.length capb) := (blk_cell hb 0).trans rfl
      have hat := own_at h3 ((m : Int) + 1) (by omega) (by omega)
      rw [show ((m : Int) + 1).toNat = m + 1 by omega] at hat
      obtain ⟨C4, F4⟩ := hat
      have n1 : (((m : Int) + 1) : Int) < (Bi.length : Int) := by omega
      have n2 : 0 ≤ ((m : Int) + 1) := by omega
      have n3 : (((m : Int) + 1)).toNat = m + 1 := by omega
      have HR := Aside0.mk (HQ.out.stored (j := m + 1) C0 (IntKind.u8.wrap (X / 65536)))
      clear hBi hl hb h3 HQ
      go_wp2
      go_region
      all_goals
        go_wp2
        go_roundw
        case rel => exact ⟨2, rfl, by omega, ⟨by have := HR.out.drew; rwa [HS.out] at this⟩⟩
        case measure => simp [intOf]
    · obtain ⟨Bi, hBi⟩ : ∃ Bi, store4 B m X 2 = Bi := ⟨_, rfl⟩
      rw [hBi] at HQ
      have hl : Bi.length = B.length := by rw [← hBi, store4_length]
      have HS := Aside0.mk (show Bi.set (m + 2) (IntKind.u8.wrap (X / 256)) = store4 B m X (2 + 1) by rw [← hBi]; simp [store4, u8_wrap])
      obtain ⟨u1, u2, hb, _, _, h3, -⟩ := HQ.out.pg
      obtain ⟨gb, capb, hu1, _, _⟩ := h3.form (by omega)
      subst hu1
      have C0 : wr.cell? ⟨g, 0, none⟩ = some (.slice (some ⟨gb, 0, none⟩) Bi.length capb) := (blk_cell hb 0).trans rfl
      have hat := own_at h3 ((m : Int) + 2) (by omega) (by omega)
      rw [show ((m : Int) + 2).toNat = m + 2 by omega] at hat
      obtain ⟨C4, F4⟩ := hat
      have n1 : (((m : Int) + 2) : Int) < (Bi.length : Int) := by omega
      have n2 : 0 ≤ ((m : Int) + 2) := by omega
      have n3 : (((m : Int) + 2)).toNat = m + 2 := by omega
      have HR := Aside0.mk (HQ.out.stored (j := m + 2) C0 (IntKind.u8.wrap (X / 256)))
      clear hBi hl hb h3 HQ
      go_wp2
      go_region
      all_goals
        go_wp2
        go_roundw
        case rel => exact ⟨3, rfl, by omega, ⟨by have := HR.out.drew; rwa [HS.out] at this⟩⟩
        case measure => simp [intOf]
    · obtain ⟨Bi, hBi⟩ : ∃ Bi, store4 B m X 3 = Bi := ⟨_, rfl⟩
      rw [hBi] at HQ
      have hl : Bi.length = B.length := by rw [← hBi, store4_length]
      have HS := Aside0.mk (show Bi.set (m + 3) (IntKind.u8.wrap X) = store4 B m X (3 + 1) by rw [← hBi]; simp [store4, u8_wrap])
      obtain ⟨u1, u2, hb, _, _, h3, -⟩ := HQ.out.pg
      obtain ⟨gb, capb, hu1, _, _⟩ := h3.form (by omega)
      subst hu1
      have C0 : wr.cell? ⟨g, 0, none⟩ = some (.slice (some ⟨gb, 0, none⟩) Bi.length capb) := (blk_cell hb 0).trans rfl
      have hat := own_at h3 ((m : Int) + 3) (by omega) (by omega)
      rw [show ((m : Int) + 3).toNat = m + 3 by omega] at hat
      obtain ⟨C4, F4⟩ := hat
      have n1 : (((m : Int) + 3) : Int) < (Bi.length : Int) := by omega
      have n2 : 0 ≤ ((m : Int) + 3) := by omega
      have n3 : (((m : Int) + 3)).toNat = m + 3 := by omega
      have HR := Aside0.mk (HQ.out.stored (j := m + 3) C0 (IntKind.u8.wrap X))
      clear hBi hl hb h3 HQ
      go_wp2
      go_region
      all_goals
        go_wp2
        go_roundw
        case rel => exact ⟨4, rfl, by omega, ⟨by have := HR.out.drew; rwa [HS.out] at this⟩⟩
        case measure => simp [intOf]
    · go_wp2
      first | go_end0 | ((try simp only [Exit.inBlock, Exit.then]); refine bodyPost_ret (results_none rfl _ _ _) rfl ?_)
      exact ⟨rfl, by rw [HX.out]; exact HQ.out⟩
end Go.Proofs.Ytmppdgjnibamlaa.Pag
