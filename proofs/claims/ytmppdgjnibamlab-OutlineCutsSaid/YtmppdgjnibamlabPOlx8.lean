/- Printed by this session's run of print.py (with contracts of its own taken as given): the functions that these laws reach, their contracts. No condition. -/
import Derived.Test.YtmppdgjnibamlabPOlx0
import Derived.Test.YtmppdgjnibamlabPOlx7
import Derived.Test.YtmppdgjnibamlabPgJ
namespace Go.Proofs.Ytmppdgjnibamlab.POl
open Go.RowKit Go.Proofs.YtmppdgjnibamlabW.PrintWords Go.Proofs.YtmppdgjnibamlabW.PrintLast Go.Proofs.YtmppdgjnibamlabW.PrintMore
attribute [local go_sem] max2_int min2_int max_two min_two max_three min_three max_four min_four   -- for this text's walks alone
open Go.Proofs.Ytmppdgjnibamlab.Pag
set_option linter.unusedVariables false
set_option linter.unusedSimpArgs false

/-! ### outline_contours: function 58 -/
mutual
def outline_contours.l0 : Nat → List Int → List Int → Int → Int → Int → Int → Option ((List (List (S40))) × (List (S82)))
  | 0, _, _, _, _, _, _ => none
  | k + 1, x0, x5, x6, x7, x29, x30 => if x30 < x29 then ((octets_U16.f x0 (wrap64 (2 + (wrap64 (2 * x30))))).bind fun bt170 => (if bt170.1 < x6 then (some (([] : List (List (S40))), ([] : List (S82)))) else (if bt170.1 ≥ 80 then (some (([] : List (List (S40))), ([] : List (S82)))) else (if x5.length < 17592186044416 then (outline_contours.l0 k x0 (x5 ++ [bt170.1]) (wrap64 (bt170.1 + 1)) x7 x29 (wrap64 (x30 + 1))) else (none))))) else (outline_contours.l1 k x0 x5 x6 x7 ([] : List Int))
def outline_contours.l1 : Nat → List Int → List Int → Int → Int → List Int → Option ((List (List (S40))) × (List (S82)))
  | 0, _, _, _, _, _ => none
  | k + 1, x0, x5, x6, x7, x11 => if (x11.length : Int) < x6 then ((octets_U8.f x0 x7).bind fun bt175 => (if (Go.bits .and .i64 bt175.1 8) = 0 then (outline_contours.j2 k x0 x5 x6 (wrap64 (x7 + 1)) x11 bt175.1 bt175.2 1) else ((octets_U8.f x0 (wrap64 (x7 + 1))).bind fun bt177 => (outline_contours.j2 k x0 x5 x6 (wrap64 ((wrap64 (x7 + 1)) + 1)) x11 bt175.1 bt175.2 (wrap64 (1 + bt177.1)))))) else ((outline_coordinates.f k x0 x7 x11 2 16).bind fun bt182 => ((outline_coordinates.f k x0 bt182.2 x11 4 32).bind fun bt186 => (outline_contours.l3 k x11 bt182.1 bt186.1 0 x5 (x5.length : Int) 0 ([] : List (List (S40))))))
def outline_contours.j2 : Nat → List Int → List Int → Int → Int → List Int → Int → Bool → Int → Option ((List (List (S40))) × (List (S82)))
  | 0, _, _, _, _, _, _, _, _ => none
  | k + 1, x0, x5, x6, x7, x11, x12, x13, x14 => if x13 = true then (outline_contours.l2 k x0 x5 x6 x7 x11 x12 (mn x14 (wrap64 (x6 - (x11.length : Int)))) 0) else (some (([] : List (List (S40))), ([] : List (S82))))
def outline_contours.l2 : Nat → List Int → List Int → Int → Int → List Int → Int → Int → Int → Option ((List (List (S40))) × (List (S82)))
  | 0, _, _, _, _, _, _, _, _ => none
  | k + 1, x0, x5, x6, x7, x11, x12, x90, x91 => if x91 < x90 then (if x11.length < 17592186044416 then (outline_contours.l2 k x0 x5 x6 x7 (x11 ++ [x12]) x12 x90 (wrap64 (x91 + 1))) else (none)) else (outline_contours.l1 k x0 x5 x6 x7 x11)
def outline_contours.l3 : Nat → List Int → List Int → List Int → Int → List Int → Int → Int → List (List (S40)) → Option ((List (List (S40))) × (List (S82)))
  | 0, _, _, _, _, _, _, _, _ => none
  | k + 1, x11, x17, x18, x21, x112, x113, x114, x191000 => if x114 < x113 then (if 0 ≤ x114 then (if x114 < (x112.length : Int) then (outline_contours.l4 k x11 x17 x18 (rd x112 x114) ([] : List (S40)) x21 x112 x113 x114 x191000) else (none)) else (none)) else (some (x191000, ([] : List (S82))))
def outline_contours.l4 : Nat → List Int → List Int → List Int → Int → List (S40) → Int → List Int → Int → Int → List (List (S40)) → Option ((List (List (S40))) × (List (S82)))
  | 0, _, _, _, _, _, _, _, _, _, _ => none
  | k + 1, x11, x17, x18, x23, x24, x25, x112, x113, x114, x191000 => if x25 ≤ x23 then (if 0 ≤ x25 then (if x25 < (x17.length : Int) then (if x25 < (x18.length : Int) then (if x25 < (x11.length : Int) then (if x24.length < 5864062014805 then (outline_contours.l4 k x11 x17 x18 x23 (x24 ++ [(⟨rd x17 x25, rd x18 x25, ((Go.bits .and .i64 (rd x11 x25) 1) != 0)⟩ : S40)]) (wrap64 (x25 + 1)) x112 x113 x114 x191000) else (none)) else (none)) else (none)) else (none)) else (none)) else (if x191000.length < 5864062014805 then (outline_contours.l3 k x11 x17 x18 (wrap64 (x23 + 1)) x112 x113 (wrap64 (x114 + 1)) (x191000 ++ [x24])) else (none))
end
def outline_contours.f (k : Nat) (l0 : List Int) (a1 : Int) : Option ((List (List (S40))) × (List (S82))) := outline_contours.l0 k l0 ([] : List Int) 0 (wrap64 (2 + (wrap64 (2 * a1)))) a1 0
theorem outline_contours.mono_l : ∀ k, (∀ y0 y1 y2 y3 y4 y5, LeO (outline_contours.l0 k y0 y1 y2 y3 y4 y5) (outline_contours.l0 (k + 1) y0 y1 y2 y3 y4 y5)) ∧ (∀ y0 y1 y2 y3 y4, LeO (outline_contours.l1 k y0 y1 y2 y3 y4) (outline_contours.l1 (k + 1) y0 y1 y2 y3 y4)) ∧ (∀ y0 y1 y2 y3 y4 y5 y6 y7, LeO (outline_contours.j2 k y0 y1 y2 y3 y4 y5 y6 y7) (outline_contours.j2 (k + 1) y0 y1 y2 y3 y4 y5 y6 y7)) ∧ (∀ y0 y1 y2 y3 y4 y5 y6 y7, LeO (outline_contours.l2 k y0 y1 y2 y3 y4 y5 y6 y7) (outline_contours.l2 (k + 1) y0 y1 y2 y3 y4 y5 y6 y7)) ∧ (∀ y0 y1 y2 y3 y4 y5 y6 y7, LeO (outline_contours.l3 k y0 y1 y2 y3 y4 y5 y6 y7) (outline_contours.l3 (k + 1) y0 y1 y2 y3 y4 y5 y6 y7)) ∧ (∀ y0 y1 y2 y3 y4 y5 y6 y7 y8 y9, LeO (outline_contours.l4 k y0 y1 y2 y3 y4 y5 y6 y7 y8 y9) (outline_contours.l4 (k + 1) y0 y1 y2 y3 y4 y5 y6 y7 y8 y9))
  | 0 => ⟨fun _ _ _ _ _ _ r h => by simp [outline_contours.l0] at h, fun _ _ _ _ _ r h => by simp [outline_contours.l1] at h, fun _ _ _ _ _ _ _ _ r h => by simp [outline_contours.j2] at h, fun _ _ _ _ _ _ _ _ r h => by simp [outline_contours.l2] at h, fun _ _ _ _ _ _ _ _ r h => by simp [outline_contours.l3] at h, fun _ _ _ _ _ _ _ _ _ _ r h => by simp [outline_contours.l4] at h⟩
  | k + 1 => by
    obtain ⟨ih0, ih1, ih2, ih3, ih4, ih5⟩ := outline_contours.mono_l k
    refine ⟨?_, ?_, ?_, ?_, ?_, ?_⟩
    · intro y0 y1 y2 y3 y4 y5
      unfold outline_contours.l0
      repeat' first
      | (with_reducible exact ih0 _ _ _ _ _ _)
      | (with_reducible exact ih1 _ _ _ _ _)
      | (with_reducible exact ih2 _ _ _ _ _ _ _ _)
      | (with_reducible exact ih3 _ _ _ _ _ _ _ _)
      | (with_reducible exact ih4 _ _ _ _ _ _ _ _)
      | (with_reducible exact ih5 _ _ _ _ _ _ _ _ _ _)
      | (with_reducible exact outline_coordinates.mono _ _ _ _ _ _)
      | (with_reducible exact LeO.refl _)
      | (with_reducible exact LeO.none _)
      | (with_reducible refine LeO.ite ?_ ?_)
      | (with_reducible refine LeO.bind ?_ (fun _ => ?_))
      | exact ih0 _ _ _ _ _ _
      | exact ih1 _ _ _ _ _
      | exact ih2 _ _ _ _ _ _ _ _
      | exact ih3 _ _ _ _ _ _ _ _
      | exact ih4 _ _ _ _ _ _ _ _
      | exact ih5 _ _ _ _ _ _ _ _ _ _
      | exact outline_coordinates.mono _ _ _ _ _ _
      | exact LeO.none _
      | refine LeO.ite ?_ ?_
      | refine LeO.bind ?_ (fun _ => ?_)
    · intro y0 y1 y2 y3 y4
      unfold outline_contours.l1
      repeat' first
      | (with_reducible exact ih0 _ _ _ _ _ _)
      | (with_reducible exact ih1 _ _ _ _ _)
      | (with_reducible exact ih2 _ _ _ _ _ _ _ _)
      | (with_reducible exact ih3 _ _ _ _ _ _ _ _)
      | (with_reducible exact ih4 _ _ _ _ _ _ _ _)
      | (with_reducible exact ih5 _ _ _ _ _ _ _ _ _ _)
      | (with_reducible exact outline_coordinates.mono _ _ _ _ _ _)
      | (with_reducible exact LeO.refl _)
      | (with_reducible exact LeO.none _)
      | (with_reducible refine LeO.ite ?_ ?_)
      | (with_reducible refine LeO.bind ?_ (fun _ => ?_))
      | exact ih0 _ _ _ _ _ _
      | exact ih1 _ _ _ _ _
      | exact ih2 _ _ _ _ _ _ _ _
      | exact ih3 _ _ _ _ _ _ _ _
      | exact ih4 _ _ _ _ _ _ _ _
      | exact ih5 _ _ _ _ _ _ _ _ _ _
      | exact outline_coordinates.mono _ _ _ _ _ _
      | exact LeO.none _
      | refine LeO.ite ?_ ?_
      | refine LeO.bind ?_ (fun _ => ?_)
    · intro y0 y1 y2 y3 y4 y5 y6 y7
      unfold outline_contours.j2
      repeat' first
      | (with_reducible exact ih0 _ _ _ _ _ _)
      | (with_reducible exact ih1 _ _ _ _ _)
      | (with_reducible exact ih2 _ _ _ _ _ _ _ _)
      | (with_reducible exact ih3 _ _ _ _ _ _ _ _)
      | (with_reducible exact ih4 _ _ _ _ _ _ _ _)
      | (with_reducible exact ih5 _ _ _ _ _ _ _ _ _ _)
      | (with_reducible exact outline_coordinates.mono _ _ _ _ _ _)
      | (with_reducible exact LeO.refl _)
      | (with_reducible exact LeO.none _)
      | (with_reducible refine LeO.ite ?_ ?_)
      | (with_reducible refine LeO.bind ?_ (fun _ => ?_))
      | exact ih0 _ _ _ _ _ _
      | exact ih1 _ _ _ _ _
      | exact ih2 _ _ _ _ _ _ _ _
      | exact ih3 _ _ _ _ _ _ _ _
      | exact ih4 _ _ _ _ _ _ _ _
      | exact ih5 _ _ _ _ _ _ _ _ _ _
      | exact outline_coordinates.mono _ _ _ _ _ _
      | exact LeO.none _
      | refine LeO.ite ?_ ?_
      | refine LeO.bind ?_ (fun _ => ?_)
    · intro y0 y1 y2 y3 y4 y5 y6 y7
      unfold outline_contours.l2
      repeat' first
      | (with_reducible exact ih0 _ _ _ _ _ _)
      | (with_reducible exact ih1 _ _ _ _ _)
      | (with_reducible exact ih2 _ _ _ _ _ _ _ _)
      | (with_reducible exact ih3 _ _ _ _ _ _ _ _)
      | (with_reducible exact ih4 _ _ _ _ _ _ _ _)
      | (with_reducible exact ih5 _ _ _ _ _ _ _ _ _ _)
      | (with_reducible exact outline_coordinates.mono _ _ _ _ _ _)
      | (with_reducible exact LeO.refl _)
      | (with_reducible exact LeO.none _)
      | (with_reducible refine LeO.ite ?_ ?_)
      | (with_reducible refine LeO.bind ?_ (fun _ => ?_))
      | exact ih0 _ _ _ _ _ _
      | exact ih1 _ _ _ _ _
      | exact ih2 _ _ _ _ _ _ _ _
      | exact ih3 _ _ _ _ _ _ _ _
      | exact ih4 _ _ _ _ _ _ _ _
      | exact ih5 _ _ _ _ _ _ _ _ _ _
      | exact outline_coordinates.mono _ _ _ _ _ _
      | exact LeO.none _
      | refine LeO.ite ?_ ?_
      | refine LeO.bind ?_ (fun _ => ?_)
    · intro y0 y1 y2 y3 y4 y5 y6 y7
      unfold outline_contours.l3
      repeat' first
      | (with_reducible exact ih0 _ _ _ _ _ _)
      | (with_reducible exact ih1 _ _ _ _ _)
      | (with_reducible exact ih2 _ _ _ _ _ _ _ _)
      | (with_reducible exact ih3 _ _ _ _ _ _ _ _)
      | (with_reducible exact ih4 _ _ _ _ _ _ _ _)
      | (with_reducible exact ih5 _ _ _ _ _ _ _ _ _ _)
      | (with_reducible exact outline_coordinates.mono _ _ _ _ _ _)
      | (with_reducible exact LeO.refl _)
      | (with_reducible exact LeO.none _)
      | (with_reducible refine LeO.ite ?_ ?_)
      | (with_reducible refine LeO.bind ?_ (fun _ => ?_))
      | exact ih0 _ _ _ _ _ _
      | exact ih1 _ _ _ _ _
      | exact ih2 _ _ _ _ _ _ _ _
      | exact ih3 _ _ _ _ _ _ _ _
      | exact ih4 _ _ _ _ _ _ _ _
      | exact ih5 _ _ _ _ _ _ _ _ _ _
      | exact outline_coordinates.mono _ _ _ _ _ _
      | exact LeO.none _
      | refine LeO.ite ?_ ?_
      | refine LeO.bind ?_ (fun _ => ?_)
    · intro y0 y1 y2 y3 y4 y5 y6 y7 y8 y9
      unfold outline_contours.l4
      repeat' first
      | (with_reducible exact ih0 _ _ _ _ _ _)
      | (with_reducible exact ih1 _ _ _ _ _)
      | (with_reducible exact ih2 _ _ _ _ _ _ _ _)
      | (with_reducible exact ih3 _ _ _ _ _ _ _ _)
      | (with_reducible exact ih4 _ _ _ _ _ _ _ _)
      | (with_reducible exact ih5 _ _ _ _ _ _ _ _ _ _)
      | (with_reducible exact outline_coordinates.mono _ _ _ _ _ _)
      | (with_reducible exact LeO.refl _)
      | (with_reducible exact LeO.none _)
      | (with_reducible refine LeO.ite ?_ ?_)
      | (with_reducible refine LeO.bind ?_ (fun _ => ?_))
      | exact ih0 _ _ _ _ _ _
      | exact ih1 _ _ _ _ _
      | exact ih2 _ _ _ _ _ _ _ _
      | exact ih3 _ _ _ _ _ _ _ _
      | exact ih4 _ _ _ _ _ _ _ _
      | exact ih5 _ _ _ _ _ _ _ _ _ _
      | exact outline_coordinates.mono _ _ _ _ _ _
      | exact LeO.none _
      | refine LeO.ite ?_ ?_
      | refine LeO.bind ?_ (fun _ => ?_)
theorem outline_contours.mono : ∀ a0 a1 k, LeO (outline_contours.f k a0 a1) (outline_contours.f (k + 1) a0 a1) := by
  intro a0 a1 k
  obtain ⟨ih0, ih1, ih2, ih3, ih4, ih5⟩ := outline_contours.mono_l k
  unfold outline_contours.f
  repeat' first
      | (with_reducible exact ih0 _ _ _ _ _ _)
      | (with_reducible exact ih1 _ _ _ _ _)
      | (with_reducible exact ih2 _ _ _ _ _ _ _ _)
      | (with_reducible exact ih3 _ _ _ _ _ _ _ _)
      | (with_reducible exact ih4 _ _ _ _ _ _ _ _)
      | (with_reducible exact ih5 _ _ _ _ _ _ _ _ _ _)
      | (with_reducible exact outline_coordinates.mono _ _ _ _ _ _)
      | (with_reducible exact LeO.refl _)
      | (with_reducible exact LeO.none _)
      | (with_reducible refine LeO.ite ?_ ?_)
      | (with_reducible refine LeO.bind ?_ (fun _ => ?_))
      | exact ih0 _ _ _ _ _ _
      | exact ih1 _ _ _ _ _
      | exact ih2 _ _ _ _ _ _ _ _
      | exact ih3 _ _ _ _ _ _ _ _
      | exact ih4 _ _ _ _ _ _ _ _
      | exact ih5 _ _ _ _ _ _ _ _ _ _
      | exact outline_coordinates.mono _ _ _ _ _ _
      | exact LeO.none _
      | refine LeO.ite ?_ ?_
      | refine LeO.bind ?_ (fun _ => ?_)
def outline_contours.T37 : Bool × List (List Nat × List Nat) := (true, [([], []), ([], []), ([], []), ([1, 2], [1, 2]), ([3], [3]), ([], []), ([], []), ([5, 6], [5, 6]), ([7], [7]), ([], []), ([], []), ([9, 10], [9, 10]), ([11], [11]), ([12], [12]), ([13], [13]), ([4, 8, 14], [4, 8, 14]), ([15], [15]), ([0, 16], [0, 16]), ([17, 17, 0, 1, 2, 3, 4, 5, 6, 7, 8, 9, 10, 11, 12, 13, 14, 15, 16, 17], [0, 17])])
def outline_contours.B37 : List Nat := [0, 0, 0, 6, 14, 0, 0, 96, 224, 0, 0, 1536, 3584, 7680, 15872, 32766, 65534, 131071, 262143]
theorem outline_contours.tab37 : rtab .any (opsOf Try.f58 37) = outline_contours.T37 := by kernel_rfl
theorem outline_contours.bits37 : waitsOk outline_contours.T37.2 outline_contours.B37 = true := by kernel_rfl
set_option maxHeartbeats 8000000 in
set_option maxRecDepth 100000 in
theorem outline_contours.calls (k : Nat) (A0 : Option Addr) (c0 : Nat) (l0 : List Int) (a1 : Int) (r1 : List (List (S40))) (r2 : List (S82)) (w : World) (hr0 : Kd.C (Kd.int .u8) w A0 l0.length l0) (hc0 : l0.length ≤ c0) (h : outline_contours.f k l0 a1 = some (r1, r2)) :
    Calls Try.prog 58 #[.slice A0 l0.length c0, .int .i64 a1] w fun e w' => ∃ v0_ v1_ : Value, e = .returned (.agg #[v0_, v1_]) ∧ Kd.S (Kd.slice 40 k40) 37 w' w.heap.size (fun _ => True) v0_ r1 ∧ Kd.R k82 82 w' w.heap.size (fun _ => True) v1_ r2 ∧ Below w.heap.size w w' := by
  have hu25 := Try.underlying25
  have hu40 := Try.underlying40
  have HR0 := Aside0.mk hr0
  have HC0 := Aside0.mk hc0
  clear hr0 hc0
  have HB := Aside0.mk (Below.refl w.heap.size w)
  have H : (outline_contours.l0 k l0 ([] : List Int) 0 (wrap64 (2 + (wrap64 (2 * a1)))) a1 0) = some (r1, r2) := h
  clear h
  have H' := Aside0.mk H
  clear H
  go_enter Try.func58, Try.ntmps58
  go_wp2_with (first | ((with_reducible refine gate_dst (N := 4) rfl ?_); refine box_event ?hg (N := 4) ?hd (cs := #[.slice none 0 0, .slice none 0 0]) (t := 25) ?hr ?_; (case hd => rfl); (case hg => rfl); (case hr => first | (go_simp; done) | (go_simp; rfl)); intro gb169 hg w3 hbox hb; have n0_ := Aside0.mk (below_step (by repeat (first | (with_reducible first | exact HB.out | apply below_alloc | apply pw_below_drewN | apply below_drew1) | exact HB.out)) hb); have n1_ := Aside0.mk (hbox); have n2_ := Aside0.mk ((by rw [hg]; exact (below_size (by repeat (first | (with_reducible first | exact HB.out | apply below_alloc | apply pw_below_drewN | apply below_drew1) | exact HB.out))) : w.heap.size ≤ gb169)); have n3_ := Aside0.mk ((by rw [hg]; exact (below_size (by repeat (first | (with_reducible first | exact HB.out | apply below_alloc | apply pw_below_drewN | apply below_drew1) | exact HB.out))) : w.heap.size ≤ gb169)); clear HB; have HB := n0_; have BK169 := n1_; have GW169 := n2_; have GE169 := n3_; clear n0_ n1_ n2_ n3_; clear hb hbox hg))
  go_loopg [5, 6, 30] k (fun kq v5 v6 v30 w' => ∃ (x5_1 : List Int) (x6_1 : Int) (x30_1 : Int), v6 = .int .i64 x6_1 ∧ v30 = .int .i64 x30_1 ∧ Aside0 (outline_contours.l0 kq l0 x5_1 x6_1 (wrap64 (2 + (wrap64 (2 * a1)))) a1 x30_1 = some (r1, r2)) ∧ Aside0 (kq ≤ k) ∧ Aside0 (Kd.R (Kd.int .i64) 3 w' w.heap.size (fun _ => True) v5 x5_1) ∧ Aside0 (w'.heap[gb169]? = some (.cells #[(.slice none 0 0), (.slice none 0 0)] 25 (0, 0))) ∧ Aside0 (Below w.heap.size w w'))
  case atStart => exact ⟨(([] : List Int)), (0), (0), (by first | rfl | (simp; done) | (simp [*]; done)), (by first | rfl | (simp; done) | (simp [*]; done)), H', ⟨Nat.le_refl _⟩, ⟨by first | exact Kd.R_nil _ _ _ _ _ | exact Kd.N_nil _ _ _ _ _ | exact Kd.V_nil _ _ _ _ _ | exact Kd.Q_nil _ _ _ _ _ | exact Kd.S_nil _ _ _ _ _⟩, ⟨by (with_reducible repeat (first | refine blk_drewN ?_ _ | refine blk_drew ?_ | refine blk_alloc ?_ _)); exact BK169.out⟩, ⟨by repeat (first | (with_reducible first | exact HB.out | apply below_alloc | apply pw_below_drewN | apply below_drew1 | refine below_set ?_ GE169.out) | exact HB.out)⟩⟩
  case round =>
    clear H'
    try clear p2
    obtain ⟨x5_1, x6_1, x30_1, rfl, rfl, HA, HK1, HO_5, BK169, HB⟩ := hrel
    cases gk with
    | zero => exact absurd HA.out (by simp [outline_contours.l0])
    | succ k1 =>
      have H := HA.out
      clear HA
      simp only [outline_contours.l0] at H
      by_cases c4 : x30_1 < a1
      · rw [if_pos c4] at H
        have c4b0 : decide (x30_1 < a1) = true := decide_eq_true c4
        clear c4
        replace H := Option.bind_eq_some_iff.mp H
        obtain ⟨⟨t170, t171⟩, A50, H⟩ := H
        replace H : (if t170 < x6_1 then (some (([] : List (List (S40))), ([] : List (S82)))) else (if t170 ≥ 80 then (some (([] : List (List (S40))), ([] : List (S82)))) else (if x5_1.length < 17592186044416 then (outline_contours.l0 k1 l0 (x5_1 ++ [t170]) (wrap64 (t170 + 1)) (wrap64 (2 + (wrap64 (2 * a1)))) a1 (wrap64 (x30_1 + 1))) else (none)))) = some (r1, r2) := H
        have A5 := Aside0.mk A50
        clear A50
        by_cases c6 : t170 < x6_1
        · rw [if_pos c6] at H
          have c6b0 : decide (t170 < x6_1) = true := decide_eq_true c6
          clear c6
          simp only [Option.some.injEq, Prod.mk.injEq] at H
          obtain ⟨rfl, rfl⟩ := H
          go_wp2_with (first | ((with_reducible refine gate_callee (f := 89) rfl ?_); refine goesL_ (some 38) rfl rfl Try.func89 (by kernel_rfl) rfl #[.slice A0 l0.length c0, .int .i64 (wrap64 (2 + (wrap64 (2 * x30_1))))] rfl (by (try simp only [List.map_toArray, List.map_cons, List.map_nil]); first | done | rfl | (simp only [List.length_drop, List.length_take]; rfl)) ?_; (with_reducible refine (octets_U16.calls _ _ l0 (wrap64 (2 + (wrap64 (2 * x30_1)))) t170 t171 _ ?side1 ?side2 A5.out).mono ?_); (case side1 => repeat (first | exact (Kd.C_below HR0.out HB.out) | (with_reducible refine Kd.C_alloc ?_ _) | (with_reducible refine Kd.C_drewN ?_ _) | (with_reducible refine Kd.C_drew ?_))); (case side2 => exact HC0.out); rintro e w' ⟨rfl, ⟨nd, rfl⟩⟩; refine ⟨_, rfl, ?_⟩; (try (rw [drewN_self wr]; generalize hq_ : World.drewN wr _ = wr; have n0_ : Aside0 (Kd.R (Kd.int .i64) 3 wr w.heap.size (fun _ => True) u5 x5_1) := ⟨by rw [← hq_]; exact (by (with_reducible repeat (first | apply Kd.R_alloc | apply Kd.R_drewN | apply Kd.R_drew)); exact HO_5.out)⟩; have n1_ : Aside0 (wr.heap[gb169]? = some (.cells #[.slice none 0 0, .slice none 0 0] 25 (0, 0))) := ⟨by rw [← hq_]; exact (by (with_reducible repeat (first | refine blk_drewN ?_ _ | refine blk_drew ?_ | refine blk_alloc ?_ _)); exact BK169.out)⟩; have n2_ : Aside0 (Below w.heap.size w wr) := ⟨by rw [← hq_]; exact (by repeat (first | (with_reducible first | exact HB.out | apply below_alloc | apply pw_below_drewN | apply below_drew1 | refine below_set ?_ GE169.out) | exact HB.out))⟩; clear HO_5 BK169 HB hq_; have HO_5 := n0_; have BK169 := n1_; have HB := n2_; clear n0_ n1_ n2_)); have hcz7_0 : wr.cell? ⟨gb169, 0, none⟩ = some (.slice none 0 0) := (blk_cell BK169.out 0).trans rfl; have hcz7_1 : wr.cell? ⟨gb169, 1, none⟩ = some (.slice none 0 0) := (blk_cell BK169.out 1).trans rfl; have hfz7_0 := blk_frozen BK169.out 0; have hfz7_1 := blk_frozen BK169.out 1))
          refine bodyPost_ret (results_cell_row rfl _ _ gb169 25 #[.slice none 0 0, .slice none 0 0] (0, 0) _ rfl (by (with_reducible repeat (first | refine blk_drewN ?_ _ | refine blk_drew ?_ | refine blk_alloc ?_ _)); refine blk_put (cs := #[.slice none 0 0, .slice none 0 0]) ?_ 1 _ rfl; (with_reducible repeat (first | refine blk_drewN ?_ _ | refine blk_drew ?_ | refine blk_alloc ?_ _)); refine blk_put (cs := #[.slice none 0 0, .slice none 0 0]) ?_ 0 _ rfl; (with_reducible repeat (first | refine blk_drewN ?_ _ | refine blk_drew ?_ | refine blk_alloc ?_ _)); exact BK169.out) Try.underlying25 rfl (by kernel_rfl)) rfl ?_
          exact ⟨_, _, by first | rfl | (simp [errW_none, errW_some] <;> rfl) | (simp [*, errW_none, errW_some] <;> rfl), by first | exact Kd.S_nil _ _ _ _ _ | exact Kd.N_nil _ _ _ _ _ | exact Kd.V_nil _ _ _ _ _ | exact Kd.Q_nil _ _ _ _ _ | exact Kd.R_nil _ _ _ _ _, by first | exact Kd.R_nil _ _ _ _ _ | exact Kd.N_nil _ _ _ _ _ | exact Kd.V_nil _ _ _ _ _ | exact Kd.Q_nil _ _ _ _ _ | exact Kd.S_nil _ _ _ _ _, by repeat (first | (with_reducible first | exact HB.out | apply below_alloc | apply pw_below_drewN | apply below_drew1 | refine below_set ?_ GE169.out) | exact HB.out)⟩
        · rw [if_neg c6] at H
          have c6b0 : decide (t170 < x6_1) = false := decide_eq_false c6
          clear c6
          by_cases c8 : t170 ≥ 80
          · rw [if_pos c8] at H
            have c8b0 : decide (80 ≤ t170) = true := decide_eq_true c8
            clear c8
            simp only [Option.some.injEq, Prod.mk.injEq] at H
            obtain ⟨rfl, rfl⟩ := H
            go_wp2_with (first | ((with_reducible refine gate_callee (f := 89) rfl ?_); refine goesL_ (some 38) rfl rfl Try.func89 (by kernel_rfl) rfl #[.slice A0 l0.length c0, .int .i64 (wrap64 (2 + (wrap64 (2 * x30_1))))] rfl (by (try simp only [List.map_toArray, List.map_cons, List.map_nil]); first | done | rfl | (simp only [List.length_drop, List.length_take]; rfl)) ?_; (with_reducible refine (octets_U16.calls _ _ l0 (wrap64 (2 + (wrap64 (2 * x30_1)))) t170 t171 _ ?side1 ?side2 A5.out).mono ?_); (case side1 => repeat (first | exact (Kd.C_below HR0.out HB.out) | (with_reducible refine Kd.C_alloc ?_ _) | (with_reducible refine Kd.C_drewN ?_ _) | (with_reducible refine Kd.C_drew ?_))); (case side2 => exact HC0.out); rintro e w' ⟨rfl, ⟨nd, rfl⟩⟩; refine ⟨_, rfl, ?_⟩; (try (rw [drewN_self wr]; generalize hq_ : World.drewN wr _ = wr; have n0_ : Aside0 (Kd.R (Kd.int .i64) 3 wr w.heap.size (fun _ => True) u5 x5_1) := ⟨by rw [← hq_]; exact (by (with_reducible repeat (first | apply Kd.R_alloc | apply Kd.R_drewN | apply Kd.R_drew)); exact HO_5.out)⟩; have n1_ : Aside0 (wr.heap[gb169]? = some (.cells #[.slice none 0 0, .slice none 0 0] 25 (0, 0))) := ⟨by rw [← hq_]; exact (by (with_reducible repeat (first | refine blk_drewN ?_ _ | refine blk_drew ?_ | refine blk_alloc ?_ _)); exact BK169.out)⟩; have n2_ : Aside0 (Below w.heap.size w wr) := ⟨by rw [← hq_]; exact (by repeat (first | (with_reducible first | exact HB.out | apply below_alloc | apply pw_below_drewN | apply below_drew1 | refine below_set ?_ GE169.out) | exact HB.out))⟩; clear HO_5 BK169 HB hq_; have HO_5 := n0_; have BK169 := n1_; have HB := n2_; clear n0_ n1_ n2_)); have hcz9_0 : wr.cell? ⟨gb169, 0, none⟩ = some (.slice none 0 0) := (blk_cell BK169.out 0).trans rfl; have hcz9_1 : wr.cell? ⟨gb169, 1, none⟩ = some (.slice none 0 0) := (blk_cell BK169.out 1).trans rfl; have hfz9_0 := blk_frozen BK169.out 0; have hfz9_1 := blk_frozen BK169.out 1))
            refine bodyPost_ret (results_cell_row rfl _ _ gb169 25 #[.slice none 0 0, .slice none 0 0] (0, 0) _ rfl (by (with_reducible repeat (first | refine blk_drewN ?_ _ | refine blk_drew ?_ | refine blk_alloc ?_ _)); refine blk_put (cs := #[.slice none 0 0, .slice none 0 0]) ?_ 1 _ rfl; (with_reducible repeat (first | refine blk_drewN ?_ _ | refine blk_drew ?_ | refine blk_alloc ?_ _)); refine blk_put (cs := #[.slice none 0 0, .slice none 0 0]) ?_ 0 _ rfl; (with_reducible repeat (first | refine blk_drewN ?_ _ | refine blk_drew ?_ | refine blk_alloc ?_ _)); exact BK169.out) Try.underlying25 rfl (by kernel_rfl)) rfl ?_
            exact ⟨_, _, by first | rfl | (simp [errW_none, errW_some] <;> rfl) | (simp [*, errW_none, errW_some] <;> rfl), by first | exact Kd.S_nil _ _ _ _ _ | exact Kd.N_nil _ _ _ _ _ | exact Kd.V_nil _ _ _ _ _ | exact Kd.Q_nil _ _ _ _ _ | exact Kd.R_nil _ _ _ _ _, by first | exact Kd.R_nil _ _ _ _ _ | exact Kd.N_nil _ _ _ _ _ | exact Kd.V_nil _ _ _ _ _ | exact Kd.Q_nil _ _ _ _ _ | exact Kd.S_nil _ _ _ _ _, by repeat (first | (with_reducible first | exact HB.out | apply below_alloc | apply pw_below_drewN | apply below_drew1 | refine below_set ?_ GE169.out) | exact HB.out)⟩
          · rw [if_neg c8] at H
            have c8b0 : decide (80 ≤ t170) = false := decide_eq_false c8
            clear c8
            by_cases c10 : x5_1.length < 17592186044416
            · rw [if_pos c10] at H
              have LMc10 := Aside0.mk c10
              clear c10
              obtain ⟨y172, hy172⟩ : ∃ y_ : List Int, y_ = (x5_1 ++ [t170]) := ⟨_, rfl⟩
              replace H : (outline_contours.l0 k1 l0 y172 (wrap64 (t170 + 1)) (wrap64 (2 + (wrap64 (2 * a1)))) a1 (wrap64 (x30_1 + 1))) = some (r1, r2) := by first | (rw [hy172]; with_reducible exact H) | (have H2_ := (Option.bind_some _ _).symm.trans H; rw [hy172]; with_reducible exact H2_) | (have H2_ := (Option.bind_some _ _).symm.trans H; with_reducible exact H2_) | with_reducible exact H | (rw [hy172]; exact H) | exact H
              have Ny172 := Aside0.mk hy172
              clear hy172
              have H' := Aside0.mk H
              clear H
              go_wp2_with (first | ((with_reducible refine gate_callee (f := 89) rfl ?_); refine goesL_ (some 38) rfl rfl Try.func89 (by kernel_rfl) rfl #[.slice A0 l0.length c0, .int .i64 (wrap64 (2 + (wrap64 (2 * x30_1))))] rfl (by (try simp only [List.map_toArray, List.map_cons, List.map_nil]); first | done | rfl | (simp only [List.length_drop, List.length_take]; rfl)) ?_; (with_reducible refine (octets_U16.calls _ _ l0 (wrap64 (2 + (wrap64 (2 * x30_1)))) t170 t171 _ ?side1 ?side2 A5.out).mono ?_); (case side1 => repeat (first | exact (Kd.C_below HR0.out HB.out) | (with_reducible refine Kd.C_alloc ?_ _) | (with_reducible refine Kd.C_drewN ?_ _) | (with_reducible refine Kd.C_drew ?_))); (case side2 => exact HC0.out); rintro e w' ⟨rfl, ⟨nd, rfl⟩⟩; refine ⟨_, rfl, ?_⟩) | ((with_reducible refine gate_builtin (b := .append) (xs := #[.tmp 49, .tmp 51]) rfl ?_); at_builtin; refine Kd.R_append (Kd.int .i64) (w0 := w) w.heap.size rfl (.tmp 49) (.tmp 51) 48 3 (.int .i64 0) 8 rfl Try.underlying48 info3 rfl (by decide) (by omega) u5 x5_1 t170 [.int .i64 t170] (fun _ => True) (fun _ => False) rfl rfl ?aP (fun _ hk => hk.elim) ?aF ?aO ?aB ?aS ?aL ?_; (case aP => exact rfl); (case aB => exact (by repeat (first | (with_reducible first | exact HB.out | apply below_alloc | apply pw_below_drewN | apply below_drew1 | refine below_set ?_ GE169.out) | exact HB.out))); (case aF => exact (fun _ _ => trivial)); (case aO => exact (by (with_reducible repeat (first | apply Kd.R_alloc | apply Kd.R_drewN | apply Kd.R_drew)); exact HO_5.out)); (case aS => exact (below_size (by repeat (first | (with_reducible first | exact HB.out | apply below_alloc | apply pw_below_drewN | apply below_drew1 | refine below_set ?_ GE169.out) | exact HB.out)))); (case aL => have := LMc10.out; omega); intro v173 w11 ho hb hg hat; rw [← Ny172.out] at ho; have n0_ := Aside0.mk (blk_grown (g := gb169) (o := .cells #[.slice none 0 0, .slice none 0 0] 25 (0, 0)) (by (with_reducible repeat (first | refine blk_drewN ?_ _ | refine blk_drew ?_ | refine blk_alloc ?_ _)); exact BK169.out) hg (Kd.R_ne HO_5.out BK169.out (by decide))); have n1_ := Aside0.mk (hb); have n2_ := Aside0.mk (ho); clear BK169; clear HB; clear HO_5; have BK169 := n0_; have HB := n1_; have HO174 := n2_; clear n0_ n1_ n2_; clear ho hb hg hat))
              go_roundg k1
              case measure => have := HK1.out; omega
              case rel => exact ⟨(y172), (wrap64 (t170 + 1)), (wrap64 (x30_1 + 1)), (by first | rfl | (simp; done) | (simp [*]; done)), (by first | rfl | (simp; done) | (simp [*]; done)), H', ⟨by have := HK1.out; omega⟩, ⟨by (with_reducible repeat (first | apply Kd.R_alloc | apply Kd.R_drewN | apply Kd.R_drew)); exact HO174.out⟩, ⟨by (with_reducible repeat (first | refine blk_drewN ?_ _ | refine blk_drew ?_ | refine blk_alloc ?_ _)); exact BK169.out⟩, ⟨by repeat (first | (with_reducible first | exact HB.out | apply below_alloc | apply pw_below_drewN | apply below_drew1 | refine below_set ?_ GE169.out) | exact HB.out)⟩⟩
            · rw [if_neg c10] at H
              exact absurd H (by simp)
      · rw [if_neg c4] at H
        have c4b0 : decide (x30_1 < a1) = false := decide_eq_false c4
        clear c4
        have H' := Aside0.mk H
        clear H
        go_wp2
        go_loopg [7, 11] k1 (fun kq v7 v11 w' => ∃ (x7_2 : Int) (x11_2 : List Int), v7 = .int .i64 x7_2 ∧ Aside0 (outline_contours.l1 kq l0 x5_1 x6_1 x7_2 x11_2 = some (r1, r2)) ∧ Aside0 (kq ≤ k1) ∧ Aside0 (Kd.R (Kd.int .i64) 3 w' w.heap.size (fun k_ => some k_ ≠ (v11 : Value).ownBlock) u5 x5_1) ∧ Aside0 (Kd.R (Kd.int .i64) 3 w' w.heap.size (fun k_ => some k_ ≠ (u5 : Value).ownBlock) v11 x11_2) ∧ Aside0 (w'.heap[gb169]? = some (.cells #[(.slice none 0 0), (.slice none 0 0)] 25 (0, 0))) ∧ Aside0 (Below w.heap.size w w'))
        case atStart => exact ⟨((wrap64 (2 + (wrap64 (2 * a1))))), (([] : List Int)), (by first | rfl | (simp; done) | (simp [*]; done)), H', ⟨Nat.le_refl _⟩, ⟨by (with_reducible repeat (first | apply Kd.R_alloc | apply Kd.R_drewN | apply Kd.R_drew)); exact Kd.R_mono HO_5.out (fun _ hk => (by simp [Value.ownBlock]))⟩, ⟨by first | exact Kd.R_nil _ _ _ _ _ | exact Kd.N_nil _ _ _ _ _ | exact Kd.V_nil _ _ _ _ _ | exact Kd.Q_nil _ _ _ _ _ | exact Kd.S_nil _ _ _ _ _⟩, ⟨by (with_reducible repeat (first | refine blk_drewN ?_ _ | refine blk_drew ?_ | refine blk_alloc ?_ _)); exact BK169.out⟩, ⟨by repeat (first | (with_reducible first | exact HB.out | apply below_alloc | apply pw_below_drewN | apply below_drew1 | refine below_set ?_ GE169.out) | exact HB.out)⟩⟩
        case round =>
          clear H'
          try clear c1
          try clear p2
          try clear c4
          try clear c4b0
          try clear c5
          try clear c6
          try clear c6b0
          try clear p6
          try clear c8
          try clear c8b0
          try clear c10
          try clear hcz7_0
          try clear hcz7_1
          try clear hcz9_0
          try clear hcz9_1
          try clear hfz7_0
          try clear hfz7_1
          try clear hfz9_0
          try clear hfz9_1
          try clear p2
          obtain ⟨x7_2, x11_2, rfl, HA, HK2, HO_5, HO_11, BK169, HB⟩ := hrel
          cases gk with
          | zero => exact absurd HA.out (by simp [outline_contours.l1])
          | succ k2 =>
            have H := HA.out
            clear HA
            simp only [outline_contours.l1] at H
            by_cases c12 : (x11_2.length : Int) < x6_1
            · rw [if_pos c12] at H
              have c12b0 : decide ((x11_2.length : Int) < x6_1) = true := decide_eq_true c12
              clear c12
              replace H := Option.bind_eq_some_iff.mp H
              obtain ⟨⟨t175, t176⟩, A130, H⟩ := H
              replace H : (if (Go.bits .and .i64 t175 8) = 0 then (outline_contours.j2 k2 l0 x5_1 x6_1 (wrap64 (x7_2 + 1)) x11_2 t175 t176 1) else ((octets_U8.f l0 (wrap64 (x7_2 + 1))).bind fun bt177 => (outline_contours.j2 k2 l0 x5_1 x6_1 (wrap64 ((wrap64 (x7_2 + 1)) + 1)) x11_2 t175 t176 (wrap64 (1 + bt177.1))))) = some (r1, r2) := H
              have A13 := Aside0.mk A130
              clear A130
              have HC14 := Aside0.mk H
              clear H
              obtain ⟨Ao15, co15, eo15⟩ := Kd.R_slice HO_11.out
              subst eo15
              go_upto_if 70 with (first | ((with_reducible refine gate_callee (f := 100) rfl ?_); refine goesL_ (some 63) rfl rfl Try.func100 (by kernel_rfl) rfl #[.slice A0 l0.length c0, .int .i64 x7_2] rfl (by (try simp only [List.map_toArray, List.map_cons, List.map_nil]); first | done | rfl | (simp only [List.length_drop, List.length_take]; rfl)) ?_; (with_reducible refine (octets_U8.calls _ _ l0 x7_2 t175 t176 _ ?side1 ?side2 A13.out).mono ?_); (case side1 => repeat (first | exact (Kd.C_below HR0.out HB.out) | (with_reducible refine Kd.C_alloc ?_ _) | (with_reducible refine Kd.C_drewN ?_ _) | (with_reducible refine Kd.C_drew ?_))); (case side2 => exact HC0.out); rintro e w' ⟨rfl, ⟨nd, rfl⟩⟩; refine ⟨_, rfl, ?_⟩))
              (try simp only [Act.put, List.setIfInBounds_toArray, List.set_cons_zero, List.set_cons_succ])
              go_cut [7, 14] (fun v7 v14 wc => ∃ (kq : Nat) (x7_13 : Int) (x14_13 : Int), v7 = .int .i64 x7_13 ∧ v14 = .int .i64 x14_13 ∧ Aside0 (outline_contours.j2 kq l0 x5_1 x6_1 x7_13 x11_2 t175 t176 x14_13 = some (r1, r2)) ∧ Aside0 (kq ≤ k2) ∧ Aside0 (Kd.R (Kd.int .i64) 3 wc w.heap.size (fun k_ => some k_ ≠ ((.slice Ao15 x11_2.length co15) : Value).ownBlock) u5 x5_1) ∧ Aside0 (Kd.R (Kd.int .i64) 3 wc w.heap.size (fun k_ => some k_ ≠ (u5 : Value).ownBlock) (.slice Ao15 x11_2.length co15) x11_2) ∧ Aside0 (wc.heap[gb169]? = some (.cells #[(.slice none 0 0), (.slice none 0 0)] 25 (0, 0))) ∧ Aside0 (Below w.heap.size w wc))
              case first =>
                have H := HC14.out
                clear HC14
                by_cases c16 : (Go.bits .and .i64 t175 8) = 0
                · rw [if_pos c16] at H
                  have c16b0 : ((Go.bits .and .i64 t175 8) == 0) = true := beq_iff_eq.mpr c16
                  have c16b1 : ((Go.bits .and .i64 t175 8) != 0) = false := bne_eq_false_iff_eq.mpr c16
                  clear c16
                  (first | rw [c16b0] | (simp only [i64_w, i32_w]; rw [c16b0]) | skip)
                  have H' := Aside0.mk H
                  clear H
                  go_wp2
                  go_meet
                  case rel => exact ⟨_, (wrap64 (x7_2 + 1)), (1), (by first | rfl | (simp; done) | (simp [*]; done)), (by first | rfl | (simp; done) | (simp [*]; done)), H', ⟨by have := HK1.out; have := HK2.out; first | omega | exact Nat.le_refl _⟩, ⟨by (with_reducible repeat (first | apply Kd.R_alloc | apply Kd.R_drewN | apply Kd.R_drew)); exact HO_5.out⟩, ⟨by (with_reducible repeat (first | apply Kd.R_alloc | apply Kd.R_drewN | apply Kd.R_drew)); exact HO_11.out⟩, ⟨by (with_reducible repeat (first | refine blk_drewN ?_ _ | refine blk_drew ?_ | refine blk_alloc ?_ _)); exact BK169.out⟩, ⟨by repeat (first | (with_reducible first | exact HB.out | apply below_alloc | apply pw_below_drewN | apply below_drew1 | refine below_set ?_ GE169.out) | exact HB.out)⟩⟩
                · rw [if_neg c16] at H
                  have c16b0 : ((Go.bits .and .i64 t175 8) == 0) = false := beq_eq_false_iff_ne.mpr c16
                  have c16b1 : ((Go.bits .and .i64 t175 8) != 0) = true := bne_iff_ne.mpr c16
                  (first | rw [c16b0] | (simp only [i64_w, i32_w]; rw [c16b0]) | skip)
                  replace H := Option.bind_eq_some_iff.mp H
                  obtain ⟨⟨t177, t178⟩, A170, H⟩ := H
                  replace H : (outline_contours.j2 k2 l0 x5_1 x6_1 (wrap64 ((wrap64 (x7_2 + 1)) + 1)) x11_2 t175 t176 (wrap64 (1 + t177))) = some (r1, r2) := H
                  have A17 := Aside0.mk A170
                  clear A170
                  have H' := Aside0.mk H
                  clear H
                  go_wp2_with (first | ((with_reducible refine gate_callee (f := 100) rfl ?_); refine goesL_ (some 74) rfl rfl Try.func100 (by kernel_rfl) rfl #[.slice A0 l0.length c0, .int .i64 (wrap64 (x7_2 + 1))] rfl (by (try simp only [List.map_toArray, List.map_cons, List.map_nil]); first | done | rfl | (simp only [List.length_drop, List.length_take]; rfl)) ?_; (with_reducible refine (octets_U8.calls _ _ l0 (wrap64 (x7_2 + 1)) t177 t178 _ ?side1 ?side2 A17.out).mono ?_); (case side1 => repeat (first | exact (Kd.C_below HR0.out HB.out) | (with_reducible refine Kd.C_alloc ?_ _) | (with_reducible refine Kd.C_drewN ?_ _) | (with_reducible refine Kd.C_drew ?_))); (case side2 => exact HC0.out); rintro e w' ⟨rfl, ⟨nd, rfl⟩⟩; refine ⟨_, rfl, ?_⟩))
                  go_meet
                  case rel => exact ⟨_, (wrap64 ((wrap64 (x7_2 + 1)) + 1)), (wrap64 (1 + t177)), (by first | rfl | (simp; done) | (simp [*]; done)), (by first | rfl | (simp; done) | (simp [*]; done)), H', ⟨by have := HK1.out; have := HK2.out; first | omega | exact Nat.le_refl _⟩, ⟨by (with_reducible repeat (first | apply Kd.R_alloc | apply Kd.R_drewN | apply Kd.R_drew)); exact HO_5.out⟩, ⟨by (with_reducible repeat (first | apply Kd.R_alloc | apply Kd.R_drewN | apply Kd.R_drew)); exact HO_11.out⟩, ⟨by (with_reducible repeat (first | refine blk_drewN ?_ _ | refine blk_drew ?_ | refine blk_alloc ?_ _)); exact BK169.out⟩, ⟨by repeat (first | (with_reducible first | exact HB.out | apply below_alloc | apply pw_below_drewN | apply below_drew1 | refine below_set ?_ GE169.out) | exact HB.out)⟩⟩
              case rest =>
                clear HC14
                try clear c1
                try clear p2
                try clear c4
                try clear c4b0
                try clear c5
                try clear c6
                try clear c6b0
                try clear p6
                try clear c8
                try clear c8b0
                try clear c10
                try clear c12
                try clear c12b0
                try clear c16
                try clear c16b0
                try clear c16b1
                try clear hcz7_0
                try clear hcz7_1
                try clear hcz9_0
                try clear hcz9_1
                try clear hfz7_0
                try clear hfz7_1
                try clear hfz9_0
                try clear hfz9_1
                try clear p2
                try clear p6
                obtain ⟨kq, x7_13, x14_13, rfl, rfl, HA, HJ13, HO_5, HO_11, BK169, HB⟩ := hcut
                cases kq with
                | zero => exact absurd HA.out (by simp [outline_contours.j2])
                | succ kj13 =>
                  have H := HA.out
                  clear HA
                  simp only [outline_contours.j2] at H
                  by_cases c18 : t176 = true
                  · subst c18
                    have H1 : (outline_contours.l2 kj13 l0 x5_1 x6_1 x7_13 x11_2 t175 (mn x14_13 (wrap64 (x6_1 - (x11_2.length : Int)))) 0) = some (r1, r2) := by rw [if_pos rfl] at H; exact H
                    clear H
                    have H := H1
                    clear H1
                    obtain ⟨ji19, hji19⟩ : ∃ j_ : Int, (mn x14_13 (wrap64 (x6_1 - (x11_2.length : Int)))) = j_ := ⟨_, rfl⟩
                    replace H : (outline_contours.l2 kj13 l0 x5_1 x6_1 x7_13 x11_2 t175 ji19 0) = some (r1, r2) := by first | (rw [hji19] at H; exact H) | (simp only [hji19] at H ⊢; exact H)
                    have hji19_ : (if (wrap64 (x6_1 - (x11_2.length : Int))) < x14_13 then (wrap64 (x6_1 - (x11_2.length : Int))) else x14_13) = ji19 := hji19
                    have H' := Aside0.mk H
                    clear H
                    go_wp2
                    go_loopg [11, 91] kj13 (fun kq v11 v91 w' => ∃ (x11_4 : List Int) (x91_4 : Int), v91 = .int .i64 x91_4 ∧ Aside0 (outline_contours.l2 kq l0 x5_1 x6_1 x7_13 x11_4 t175 ji19 x91_4 = some (r1, r2)) ∧ Aside0 (kq ≤ kj13) ∧ Aside0 (Kd.R (Kd.int .i64) 3 w' w.heap.size (fun k_ => some k_ ≠ (v11 : Value).ownBlock) u5 x5_1) ∧ Aside0 (Kd.R (Kd.int .i64) 3 w' w.heap.size (fun k_ => some k_ ≠ (u5 : Value).ownBlock) v11 x11_4) ∧ Aside0 (w'.heap[gb169]? = some (.cells #[(.slice none 0 0), (.slice none 0 0)] 25 (0, 0))) ∧ Aside0 (Below w.heap.size w w'))
                    case atStart => exact ⟨(x11_2), (0), (by first | rfl | (simp; done) | (simp [*]; done)), H', ⟨Nat.le_refl _⟩, ⟨by (with_reducible repeat (first | apply Kd.R_alloc | apply Kd.R_drewN | apply Kd.R_drew)); exact HO_5.out⟩, ⟨by (with_reducible repeat (first | apply Kd.R_alloc | apply Kd.R_drewN | apply Kd.R_drew)); exact HO_11.out⟩, ⟨by (with_reducible repeat (first | refine blk_drewN ?_ _ | refine blk_drew ?_ | refine blk_alloc ?_ _)); exact BK169.out⟩, ⟨by repeat (first | (with_reducible first | exact HB.out | apply below_alloc | apply pw_below_drewN | apply below_drew1 | refine below_set ?_ GE169.out) | exact HB.out)⟩⟩
                    case round =>
                      clear H'
                      try clear c1
                      try clear p2
                      try clear c4
                      try clear c4b0
                      try clear c5
                      try clear c6
                      try clear c6b0
                      try clear p6
                      try clear c8
                      try clear c8b0
                      try clear c10
                      try clear c12
                      try clear c12b0
                      try clear c16
                      try clear c16b0
                      try clear c16b1
                      try clear c18
                      try clear hcz7_0
                      try clear hcz7_1
                      try clear hcz9_0
                      try clear hcz9_1
                      try clear hfz7_0
                      try clear hfz7_1
                      try clear hfz9_0
                      try clear hfz9_1
                      try clear p2
                      try clear p6
                      obtain ⟨x11_4, x91_4, rfl, HA, HK4, HO_5, HO_11, BK169, HB⟩ := hrel
                      cases gk with
                      | zero => exact absurd HA.out (by simp [outline_contours.l2])
                      | succ k4 =>
                        have H := HA.out
                        clear HA
                        simp only [outline_contours.l2] at H
                        by_cases c20 : x91_4 < ji19
                        · rw [if_pos c20] at H
                          have c20b0 : decide (x91_4 < ji19) = true := decide_eq_true c20
                          clear c20
                          by_cases c21 : x11_4.length < 17592186044416
                          · rw [if_pos c21] at H
                            have LMc21 := Aside0.mk c21
                            clear c21
                            obtain ⟨y179, hy179⟩ : ∃ y_ : List Int, y_ = (x11_4 ++ [t175]) := ⟨_, rfl⟩
                            replace H : (outline_contours.l2 k4 l0 x5_1 x6_1 x7_13 y179 t175 ji19 (wrap64 (x91_4 + 1))) = some (r1, r2) := by first | (rw [hy179]; with_reducible exact H) | (have H2_ := (Option.bind_some _ _).symm.trans H; rw [hy179]; with_reducible exact H2_) | (have H2_ := (Option.bind_some _ _).symm.trans H; with_reducible exact H2_) | with_reducible exact H | (rw [hy179]; exact H) | exact H
                            have Ny179 := Aside0.mk hy179
                            clear hy179
                            have H' := Aside0.mk H
                            clear H
                            go_wp2_with (first | ((with_reducible refine gate_builtin (b := .append) (xs := #[.tmp 93, .tmp 95]) rfl ?_); at_builtin; refine Kd.R_append (Kd.int .i64) (w0 := w) w.heap.size rfl (.tmp 93) (.tmp 95) 48 3 (.int .i64 0) 8 rfl Try.underlying48 info3 rfl (by decide) (by omega) u11 x11_4 t175 [.int .i64 t175] (fun k_ => some k_ ≠ (u5 : Value).ownBlock) (fun _ => False) rfl rfl ?aP (fun _ hk => hk.elim) ?aF ?aO ?aB ?aS ?aL ?_; (case aP => exact rfl); (case aB => exact (by repeat (first | (with_reducible first | exact HB.out | apply below_alloc | apply pw_below_drewN | apply below_drew1 | refine below_set ?_ GE169.out) | exact HB.out))); (case aF => exact (fun k_ hk => Kd.fresh' (Kd.R_lt (by (with_reducible repeat (first | apply Kd.R_alloc | apply Kd.R_drewN | apply Kd.R_drew)); exact HO_5.out)) k_ hk)); (case aO => exact (by (with_reducible repeat (first | apply Kd.R_alloc | apply Kd.R_drewN | apply Kd.R_drew)); exact HO_11.out)); (case aS => exact (below_size (by repeat (first | (with_reducible first | exact HB.out | apply below_alloc | apply pw_below_drewN | apply below_drew1 | refine below_set ?_ GE169.out) | exact HB.out)))); (case aL => have := LMc21.out; omega); intro v180 w22 ho hb hg hat; rw [← Ny179.out] at ho; have n0_ := Aside0.mk (Kd.R_after (ok := (fun _ => True)) (by (with_reducible repeat (first | apply Kd.R_alloc | apply Kd.R_drewN | apply Kd.R_drew)); exact Kd.R_mono HO_5.out (fun _ hk => ⟨trivial, hk⟩)) hg hat); have n1_ := Aside0.mk (blk_grown (g := gb169) (o := .cells #[.slice none 0 0, .slice none 0 0] 25 (0, 0)) (by (with_reducible repeat (first | refine blk_drewN ?_ _ | refine blk_drew ?_ | refine blk_alloc ?_ _)); exact BK169.out) hg (Kd.R_ne HO_11.out BK169.out (by decide))); have n2_ := Aside0.mk (hb); have n3_ := Aside0.mk (ho); clear HO_5; clear BK169; clear HB; clear HO_11; have HO_5 := n0_; have BK169 := n1_; have HB := n2_; have HO181 := n3_; clear n0_ n1_ n2_ n3_; clear ho hb hg hat))
                            go_roundg k4
                            case measure => have := HK1.out; have := HK2.out; have := HJ13.out; have := HK4.out; omega
                            case rel => exact ⟨(y179), (wrap64 (x91_4 + 1)), (by first | rfl | (simp; done) | (simp [*]; done)), H', ⟨by have := HK1.out; have := HK2.out; have := HJ13.out; have := HK4.out; omega⟩, ⟨by (with_reducible repeat (first | apply Kd.R_alloc | apply Kd.R_drewN | apply Kd.R_drew)); exact Kd.R_mono HO_5.out (fun _ hk => hk.2)⟩, ⟨by (with_reducible repeat (first | apply Kd.R_alloc | apply Kd.R_drewN | apply Kd.R_drew)); exact HO181.out⟩, ⟨by (with_reducible repeat (first | refine blk_drewN ?_ _ | refine blk_drew ?_ | refine blk_alloc ?_ _)); exact BK169.out⟩, ⟨by repeat (first | (with_reducible first | exact HB.out | apply below_alloc | apply pw_below_drewN | apply below_drew1 | refine below_set ?_ GE169.out) | exact HB.out)⟩⟩
                          · rw [if_neg c21] at H
                            exact absurd H (by simp)
                        · rw [if_neg c20] at H
                          have c20b0 : decide (x91_4 < ji19) = false := decide_eq_false c20
                          clear c20
                          have H' := Aside0.mk H
                          clear H
                          go_wp2
                          go_roundg k4
                          case measure => have := HK1.out; have := HK2.out; have := HJ13.out; have := HK4.out; omega
                          case rel => exact ⟨(x7_13), (x11_4), (by first | rfl | (simp; done) | (simp [*]; done)), H', ⟨by have := HK1.out; have := HK2.out; have := HJ13.out; have := HK4.out; omega⟩, ⟨by (with_reducible repeat (first | apply Kd.R_alloc | apply Kd.R_drewN | apply Kd.R_drew)); exact HO_5.out⟩, ⟨by (with_reducible repeat (first | apply Kd.R_alloc | apply Kd.R_drewN | apply Kd.R_drew)); exact HO_11.out⟩, ⟨by (with_reducible repeat (first | refine blk_drewN ?_ _ | refine blk_drew ?_ | refine blk_alloc ?_ _)); exact BK169.out⟩, ⟨by repeat (first | (with_reducible first | exact HB.out | apply below_alloc | apply pw_below_drewN | apply below_drew1 | refine below_set ?_ GE169.out) | exact HB.out)⟩⟩
                  · replace c18 := Bool.eq_false_iff.mpr c18
                    subst c18
                    have H1 : (some (([] : List (List (S40))), ([] : List (S82)))) = some (r1, r2) := by rw [if_neg (show ¬ (false = true) by decide)] at H; exact H
                    clear H
                    have H := H1
                    clear H1
                    simp only [Option.some.injEq, Prod.mk.injEq] at H
                    obtain ⟨rfl, rfl⟩ := H
                    have hcz23_0 : wc.cell? ⟨gb169, 0, none⟩ = some (.slice none 0 0) := (blk_cell BK169.out 0).trans rfl
                    have hcz23_1 : wc.cell? ⟨gb169, 1, none⟩ = some (.slice none 0 0) := (blk_cell BK169.out 1).trans rfl
                    have hfz23_0 := blk_frozen BK169.out 0
                    have hfz23_1 := blk_frozen BK169.out 1
                    go_wp2
                    refine bodyPost_ret (results_cell_row rfl _ _ gb169 25 #[.slice none 0 0, .slice none 0 0] (0, 0) _ rfl (by (with_reducible repeat (first | refine blk_drewN ?_ _ | refine blk_drew ?_ | refine blk_alloc ?_ _)); refine blk_put (cs := #[.slice none 0 0, .slice none 0 0]) ?_ 1 _ rfl; (with_reducible repeat (first | refine blk_drewN ?_ _ | refine blk_drew ?_ | refine blk_alloc ?_ _)); refine blk_put (cs := #[.slice none 0 0, .slice none 0 0]) ?_ 0 _ rfl; (with_reducible repeat (first | refine blk_drewN ?_ _ | refine blk_drew ?_ | refine blk_alloc ?_ _)); exact BK169.out) Try.underlying25 rfl (by kernel_rfl)) rfl ?_
                    exact ⟨_, _, by first | rfl | (simp [errW_none, errW_some] <;> rfl) | (simp [*, errW_none, errW_some] <;> rfl), by first | exact Kd.S_nil _ _ _ _ _ | exact Kd.N_nil _ _ _ _ _ | exact Kd.V_nil _ _ _ _ _ | exact Kd.Q_nil _ _ _ _ _ | exact Kd.R_nil _ _ _ _ _, by first | exact Kd.R_nil _ _ _ _ _ | exact Kd.N_nil _ _ _ _ _ | exact Kd.V_nil _ _ _ _ _ | exact Kd.Q_nil _ _ _ _ _ | exact Kd.S_nil _ _ _ _ _, by repeat (first | (with_reducible first | exact HB.out | apply below_alloc | apply pw_below_drewN | apply below_drew1 | refine below_set ?_ GE169.out) | exact HB.out)⟩
            · rw [if_neg c12] at H
              have c12b0 : decide ((x11_2.length : Int) < x6_1) = false := decide_eq_false c12
              clear c12
              replace H := Option.bind_eq_some_iff.mp H
              obtain ⟨⟨t182, t183⟩, A240, H⟩ := H
              replace H : ((outline_coordinates.f k2 l0 t183 x11_2 4 32).bind fun bt186 => (outline_contours.l3 k2 x11_2 t182 bt186.1 0 x5_1 (x5_1.length : Int) 0 ([] : List (List (S40))))) = some (r1, r2) := H
              have A24 := Aside0.mk A240
              clear A240
              replace H := Option.bind_eq_some_iff.mp H
              obtain ⟨⟨t186, t187⟩, A250, H⟩ := H
              replace H : (outline_contours.l3 k2 x11_2 t182 t186 0 x5_1 (x5_1.length : Int) 0 ([] : List (List (S40)))) = some (r1, r2) := H
              have A25 := Aside0.mk A250
              clear A250
              have H' := Aside0.mk H
              clear H
              obtain ⟨Ao26, co26, eo26⟩ := Kd.R_slice HO_11.out
              subst eo26
              go_wp2_with (first | ((with_reducible refine gate_callee (f := 101) rfl ?_); refine goesL_ (some 102) rfl rfl Try.func101 (by kernel_rfl) rfl #[.slice A0 l0.length c0, .int .i64 x7_2, .slice Ao26 x11_2.length co26, .int .i64 2, .int .i64 16] rfl (by (try simp only [List.map_toArray, List.map_cons, List.map_nil]); first | done | rfl | (simp only [List.length_drop, List.length_take]; rfl)) ?_; (with_reducible refine (outline_coordinates.calls k2 _ _ l0 x7_2 _ _ x11_2 2 16 t182 t183 _ ?side1 ?side2 ?side3 ?side4 A24.out).mono ?_); (case side1 => repeat (first | exact (Kd.C_below HR0.out HB.out) | (with_reducible refine Kd.C_alloc ?_ _) | (with_reducible refine Kd.C_drewN ?_ _) | (with_reducible refine Kd.C_drew ?_))); (case side2 => exact HC0.out); (case side3 => repeat (first | exact (Kd.R_reads' HO_11.out).2.2 | (with_reducible refine Kd.C_alloc ?_ _) | (with_reducible refine Kd.C_drewN ?_ _) | (with_reducible refine Kd.C_drew ?_))); (case side4 => exact (Kd.R_reads' HO_11.out).2.1); rintro e w27 ⟨v184, rfl, ho0, hb⟩; refine ⟨_, rfl, ?_⟩; have n0_ := Aside0.mk (Kd.R_elder' (by (with_reducible repeat (first | apply Kd.R_alloc | apply Kd.R_drewN | apply Kd.R_drew)); exact HO_5.out) (Kd.R_base ho0) hb); have n1_ := Aside0.mk (Kd.R_elder' (by (with_reducible repeat (first | apply Kd.R_alloc | apply Kd.R_drewN | apply Kd.R_drew)); exact HO_11.out) (Kd.R_base ho0) hb); have n2_ := Aside0.mk (Kd.R_lower (Kd.R_new' (Kd.R_new' ho0 (Kd.R_lt (by (with_reducible repeat (first | apply Kd.R_alloc | apply Kd.R_drewN | apply Kd.R_drew)); exact HO_5.out))) (Kd.R_lt (by (with_reducible repeat (first | apply Kd.R_alloc | apply Kd.R_drewN | apply Kd.R_drew)); exact HO_11.out))) (below_size (by repeat (first | (with_reducible first | exact HB.out | apply below_alloc | apply pw_below_drewN | apply below_drew1 | refine below_set ?_ GE169.out) | exact HB.out)))); have n3_ := Aside0.mk (blk_below (g := gb169) (o := .cells #[.slice none 0 0, .slice none 0 0] 25 (0, 0)) (by (with_reducible repeat (first | refine blk_drewN ?_ _ | refine blk_drew ?_ | refine blk_alloc ?_ _)); exact BK169.out) hb); have n4_ := Aside0.mk (below_step (by repeat (first | (with_reducible first | exact HB.out | apply below_alloc | apply pw_below_drewN | apply below_drew1 | refine below_set ?_ GE169.out) | exact HB.out)) hb); clear HO_5; clear HO_11; clear BK169; clear HB; have HO_5 := n0_; have HO_11 := n1_; have HO185 := n2_; have BK169 := n3_; have HB := n4_; clear n0_ n1_ n2_ n3_ n4_; (try clear hb); (try clear hb2); (try clear hk); (try clear hi); (try clear ho0)) | ((with_reducible refine gate_callee (f := 101) rfl ?_); refine goesL_ (some 109) rfl rfl Try.func101 (by kernel_rfl) rfl #[.slice A0 l0.length c0, .int .i64 t183, .slice Ao26 x11_2.length co26, .int .i64 4, .int .i64 32] rfl (by (try simp only [List.map_toArray, List.map_cons, List.map_nil]); first | done | rfl | (simp only [List.length_drop, List.length_take]; rfl)) ?_; (with_reducible refine (outline_coordinates.calls k2 _ _ l0 t183 _ _ x11_2 4 32 t186 t187 _ ?side1 ?side2 ?side3 ?side4 A25.out).mono ?_); (case side1 => repeat (first | exact (Kd.C_below HR0.out HB.out) | (with_reducible refine Kd.C_alloc ?_ _) | (with_reducible refine Kd.C_drewN ?_ _) | (with_reducible refine Kd.C_drew ?_))); (case side2 => exact HC0.out); (case side3 => repeat (first | exact (Kd.R_reads' HO_11.out).2.2 | (with_reducible refine Kd.C_alloc ?_ _) | (with_reducible refine Kd.C_drewN ?_ _) | (with_reducible refine Kd.C_drew ?_))); (case side4 => exact (Kd.R_reads' HO_11.out).2.1); rintro e w28 ⟨v188, rfl, ho0, hb⟩; refine ⟨_, rfl, ?_⟩; have n0_ := Aside0.mk (Kd.R_elder' (by (with_reducible repeat (first | apply Kd.R_alloc | apply Kd.R_drewN | apply Kd.R_drew)); exact HO_5.out) (Kd.R_base ho0) hb); have n1_ := Aside0.mk (Kd.R_elder' (by (with_reducible repeat (first | apply Kd.R_alloc | apply Kd.R_drewN | apply Kd.R_drew)); exact HO_11.out) (Kd.R_base ho0) hb); have n2_ := Aside0.mk (Kd.R_elder' (by (with_reducible repeat (first | apply Kd.R_alloc | apply Kd.R_drewN | apply Kd.R_drew)); exact HO185.out) (Kd.R_base ho0) hb); have n3_ := Aside0.mk (Kd.R_lower (Kd.R_new' (Kd.R_new' (Kd.R_new' ho0 (Kd.R_lt (by (with_reducible repeat (first | apply Kd.R_alloc | apply Kd.R_drewN | apply Kd.R_drew)); exact HO_5.out))) (Kd.R_lt (by (with_reducible repeat (first | apply Kd.R_alloc | apply Kd.R_drewN | apply Kd.R_drew)); exact HO_11.out))) (Kd.R_lt (by (with_reducible repeat (first | apply Kd.R_alloc | apply Kd.R_drewN | apply Kd.R_drew)); exact HO185.out))) (below_size (by repeat (first | (with_reducible first | exact HB.out | apply below_alloc | apply pw_below_drewN | apply below_drew1 | refine below_set ?_ GE169.out) | exact HB.out)))); have n4_ := Aside0.mk (blk_below (g := gb169) (o := .cells #[.slice none 0 0, .slice none 0 0] 25 (0, 0)) (by (with_reducible repeat (first | refine blk_drewN ?_ _ | refine blk_drew ?_ | refine blk_alloc ?_ _)); exact BK169.out) hb); have n5_ := Aside0.mk (below_step (by repeat (first | (with_reducible first | exact HB.out | apply below_alloc | apply pw_below_drewN | apply below_drew1 | refine below_set ?_ GE169.out) | exact HB.out)) hb); clear HO_5; clear HO_11; clear HO185; clear BK169; clear HB; have HO_5 := n0_; have HO_11 := n1_; have HO185 := n2_; have HO189 := n3_; have BK169 := n4_; have HB := n5_; clear n0_ n1_ n2_ n3_ n4_ n5_; (try clear hb); (try clear hb2); (try clear hk); (try clear hi); (try clear ho0)) | ((with_reducible refine gate_dst (N := 20) rfl ?_); refine box_event ?hg (N := 20) ?hd (cs := #[.slice none 0 0, .slice none 0 0]) (t := 25) ?hr ?_; (case hd => rfl); (case hg => rfl); (case hr => first | (go_simp; done) | (go_simp; rfl)); intro gb190 hg w29 hbox hb; have n0_ := Aside0.mk (Kd.R_below (by (with_reducible repeat (first | apply Kd.R_alloc | apply Kd.R_drewN | apply Kd.R_drew)); exact HO_5.out) hb); have n1_ := Aside0.mk (Kd.R_below (by (with_reducible repeat (first | apply Kd.R_alloc | apply Kd.R_drewN | apply Kd.R_drew)); exact HO_11.out) hb); have n2_ := Aside0.mk (Kd.R_below (by (with_reducible repeat (first | apply Kd.R_alloc | apply Kd.R_drewN | apply Kd.R_drew)); exact HO185.out) hb); have n3_ := Aside0.mk (Kd.R_below (by (with_reducible repeat (first | apply Kd.R_alloc | apply Kd.R_drewN | apply Kd.R_drew)); exact HO189.out) hb); have n4_ := Aside0.mk (blk_below (g := gb169) (o := .cells #[.slice none 0 0, .slice none 0 0] 25 (0, 0)) (by (with_reducible repeat (first | refine blk_drewN ?_ _ | refine blk_drew ?_ | refine blk_alloc ?_ _)); exact BK169.out) hb); have n5_ := Aside0.mk (below_step (by repeat (first | (with_reducible first | exact HB.out | apply below_alloc | apply pw_below_drewN | apply below_drew1 | refine below_set ?_ GE169.out) | exact HB.out)) hb); have n6_ := Aside0.mk (hbox); have n7_ := Aside0.mk ((by rw [hg]; exact (below_size (by repeat (first | (with_reducible first | exact HB.out | apply below_alloc | apply pw_below_drewN | apply below_drew1 | refine below_set ?_ GE169.out) | exact HB.out))) : w.heap.size ≤ gb190)); have n8_ := Aside0.mk ((by rw [hg]; exact (below_size (by repeat (first | (with_reducible first | exact HB.out | apply below_alloc | apply pw_below_drewN | apply below_drew1 | refine below_set ?_ GE169.out) | exact HB.out))) : w.heap.size ≤ gb190)); have n9_ := Aside0.mk ((by rw [hg]; exact Nat.ne_of_lt (blk_lt (g := gb169) (o := .cells #[.slice none 0 0, .slice none 0 0] 25 (0, 0)) (by (with_reducible repeat (first | refine blk_drewN ?_ _ | refine blk_drew ?_ | refine blk_alloc ?_ _)); exact BK169.out)) : gb169 ≠ gb190)); have n10_ := Aside0.mk ((by rw [hg]; exact Nat.ne_of_gt (blk_lt (g := gb169) (o := .cells #[.slice none 0 0, .slice none 0 0] 25 (0, 0)) (by (with_reducible repeat (first | refine blk_drewN ?_ _ | refine blk_drew ?_ | refine blk_alloc ?_ _)); exact BK169.out)) : gb190 ≠ gb169)); clear HO_5; clear HO_11; clear HO185; clear HO189; clear BK169; clear HB; have HO_5 := n0_; have HO_11 := n1_; have HO185 := n2_; have HO189 := n3_; have BK169 := n4_; have HB := n5_; have BK190 := n6_; have GW190 := n7_; have GE190 := n8_; have NB169_190 := n9_; have NB190_169 := n10_; clear n0_ n1_ n2_ n3_ n4_ n5_ n6_ n7_ n8_ n9_ n10_; clear hb hbox hg; obtain ⟨Ao30, co30, eo30⟩ := Kd.R_slice HO_5.out; subst eo30))
              go_loopg [21, 114] k2 (fun kq v21 v114 w' => ∃ (x21_3 : Int) (x114_3 : Int) (x191000_3 : List (List (S40))) (u191000 : Value), v21 = .int .i64 x21_3 ∧ v114 = .int .i64 x114_3 ∧ Aside0 (outline_contours.l3 kq x11_2 t182 t186 x21_3 x5_1 (x5_1.length : Int) x114_3 x191000_3 = some (r1, r2)) ∧ Aside0 (kq ≤ k2) ∧ Aside0 (Kd.R (Kd.int .i64) 3 w' w.heap.size (fun k_ => some k_ ≠ (v184 : Value).ownBlock ∧ some k_ ≠ (v188 : Value).ownBlock ∧ some k_ ≠ ((.slice Ao30 x5_1.length co30) : Value).ownBlock) (.slice Ao26 x11_2.length co26) x11_2) ∧ Aside0 (Kd.R (Kd.int .i64) 3 w' w.heap.size (fun k_ => some k_ ≠ ((.slice Ao26 x11_2.length co26) : Value).ownBlock ∧ some k_ ≠ (v188 : Value).ownBlock ∧ some k_ ≠ ((.slice Ao30 x5_1.length co30) : Value).ownBlock) v184 t182) ∧ Aside0 (Kd.R (Kd.int .i64) 3 w' w.heap.size (fun k_ => some k_ ≠ ((.slice Ao26 x11_2.length co26) : Value).ownBlock ∧ some k_ ≠ (v184 : Value).ownBlock ∧ some k_ ≠ ((.slice Ao30 x5_1.length co30) : Value).ownBlock) v188 t186) ∧ Aside0 (Kd.R (Kd.int .i64) 3 w' w.heap.size (fun k_ => some k_ ≠ ((.slice Ao26 x11_2.length co26) : Value).ownBlock ∧ some k_ ≠ (v184 : Value).ownBlock ∧ some k_ ≠ (v188 : Value).ownBlock) (.slice Ao30 x5_1.length co30) x5_1) ∧ Aside0 (Kd.S (Kd.slice 40 k40) 37 w' w.heap.size (fun _ => True) u191000 x191000_3) ∧ Aside0 (w'.heap[gb169]? = some (.cells #[(.slice none 0 0), (.slice none 0 0)] 25 (0, 0))) ∧ Aside0 (w'.heap[gb190]? = some (.cells #[u191000, (.slice none 0 0)] 25 (0, 0))) ∧ Aside0 (Below w.heap.size w w'))
              case atStart => exact ⟨(0), (0), (([] : List (List (S40)))), (.slice none 0 0), (by first | rfl | (simp; done) | (simp [*]; done)), (by first | rfl | (simp; done) | (simp [*]; done)), H', ⟨Nat.le_refl _⟩, ⟨by (with_reducible repeat (first | apply Kd.R_alloc | apply Kd.R_drewN | apply Kd.R_drew)); exact Kd.R_mono HO_11.out (fun _ hk => ⟨hk.1.2, ⟨hk.2, hk.1.1⟩⟩)⟩, ⟨by (with_reducible repeat (first | apply Kd.R_alloc | apply Kd.R_drewN | apply Kd.R_drew)); exact Kd.R_mono HO185.out (fun _ hk => ⟨hk.1.2, ⟨hk.2, hk.1.1.2⟩⟩)⟩, ⟨by (with_reducible repeat (first | apply Kd.R_alloc | apply Kd.R_drewN | apply Kd.R_drew)); exact Kd.R_mono HO189.out (fun _ hk => ⟨hk.1.2, ⟨hk.2, hk.1.1.2⟩⟩)⟩, ⟨by (with_reducible repeat (first | apply Kd.R_alloc | apply Kd.R_drewN | apply Kd.R_drew)); exact Kd.R_mono HO_5.out (fun _ hk => ⟨hk.1.1, ⟨hk.1.2, hk.2⟩⟩)⟩, ⟨by first | exact Kd.S_nil _ _ _ _ _ | exact Kd.N_nil _ _ _ _ _ | exact Kd.V_nil _ _ _ _ _ | exact Kd.Q_nil _ _ _ _ _ | exact Kd.R_nil _ _ _ _ _⟩, ⟨by (with_reducible repeat (first | refine blk_drewN ?_ _ | refine blk_drew ?_ | refine blk_alloc ?_ _)); exact BK169.out⟩, ⟨by (with_reducible repeat (first | refine blk_drewN ?_ _ | refine blk_drew ?_ | refine blk_alloc ?_ _)); exact BK190.out⟩, ⟨by repeat (first | (with_reducible first | exact HB.out | apply below_alloc | apply pw_below_drewN | apply below_drew1 | refine below_set ?_ GE169.out | refine below_set ?_ GE190.out) | exact HB.out)⟩⟩
              case round =>
                clear H'
                try clear c1
                try clear c2
                try clear p2
                try clear c4
                try clear c4b0
                try clear c5
                try clear c6
                try clear c6b0
                try clear p6
                try clear c8
                try clear c8b0
                try clear c10
                try clear c12
                try clear c12b0
                try clear c16
                try clear c16b0
                try clear c16b1
                try clear c18
                try clear c20
                try clear c20b0
                try clear c21
                try clear hcz23_0
                try clear hcz23_1
                try clear hcz7_0
                try clear hcz7_1
                try clear hcz9_0
                try clear hcz9_1
                try clear hfz23_0
                try clear hfz23_1
                try clear hfz7_0
                try clear hfz7_1
                try clear hfz9_0
                try clear hfz9_1
                try clear p2
                try clear p6
                obtain ⟨x21_3, x114_3, x191000_3, u191000, rfl, rfl, HA, HK3, HO_11, HO_17, HO_18, HO_112, HO_191000, BK169, BK190, HB⟩ := hrel
                cases gk with
                | zero => exact absurd HA.out (by simp [outline_contours.l3])
                | succ k3 =>
                  have H := HA.out
                  clear HA
                  simp only [outline_contours.l3] at H
                  by_cases c31 : x114_3 < (x5_1.length : Int)
                  · rw [if_pos c31] at H
                    have c31b0 : decide (x114_3 < (x5_1.length : Int)) = true := decide_eq_true c31
                    clear c31
                    by_cases c32 : 0 ≤ x114_3
                    · rw [if_pos c32] at H
                      have c32b0 : decide (0 ≤ x114_3) = true := decide_eq_true c32
                      clear c32
                      by_cases c33 : x114_3 < (x5_1.length : Int)
                      · rw [if_pos c33] at H
                        have c33b0 : decide (x114_3 < (x5_1.length : Int)) = true := decide_eq_true c33
                        clear c33
                        have H' := Aside0.mk H
                        clear H
                        have p191 : 0 ≤ (x114_3 : Int) := of_decide_eq_true (by first | (with_reducible assumption) | assumption)
                        have q191 : x114_3 < (x5_1.length : Int) := of_decide_eq_true (by first | (with_reducible assumption) | assumption)
                        obtain ⟨ad191, e191, hx191_0⟩ := Kd.at_int (Kd.R_reads' HO_112.out).2.2 x114_3 p191 q191
                        cases e191
                        replace p191 := eq_true p191
                        replace q191 := eq_true q191
                        go_wp2
                        go_loopg [24, 25] k3 (fun kq v24 v25 w' => ∃ (x24_4 : List (S40)) (x25_4 : Int), v25 = .int .i64 x25_4 ∧ Aside0 (outline_contours.l4 kq x11_2 t182 t186 (rd x5_1 x114_3) x24_4 x25_4 x5_1 (x5_1.length : Int) x114_3 x191000_3 = some (r1, r2)) ∧ Aside0 (kq ≤ k3) ∧ Aside0 (Kd.R (Kd.int .i64) 3 w' w.heap.size (fun k_ => some k_ ≠ (v184 : Value).ownBlock ∧ some k_ ≠ (v188 : Value).ownBlock ∧ some k_ ≠ ((.slice (some ad191) x5_1.length co30) : Value).ownBlock) (.slice Ao26 x11_2.length co26) x11_2) ∧ Aside0 (Kd.R (Kd.int .i64) 3 w' w.heap.size (fun k_ => some k_ ≠ ((.slice Ao26 x11_2.length co26) : Value).ownBlock ∧ some k_ ≠ (v188 : Value).ownBlock ∧ some k_ ≠ ((.slice (some ad191) x5_1.length co30) : Value).ownBlock) v184 t182) ∧ Aside0 (Kd.R (Kd.int .i64) 3 w' w.heap.size (fun k_ => some k_ ≠ ((.slice Ao26 x11_2.length co26) : Value).ownBlock ∧ some k_ ≠ (v184 : Value).ownBlock ∧ some k_ ≠ ((.slice (some ad191) x5_1.length co30) : Value).ownBlock) v188 t186) ∧ Aside0 (Kd.R k40 40 w' w.heap.size (fun _ => True) v24 x24_4) ∧ Aside0 (Kd.R (Kd.int .i64) 3 w' w.heap.size (fun k_ => some k_ ≠ ((.slice Ao26 x11_2.length co26) : Value).ownBlock ∧ some k_ ≠ (v184 : Value).ownBlock ∧ some k_ ≠ (v188 : Value).ownBlock) (.slice (some ad191) x5_1.length co30) x5_1) ∧ Aside0 (Kd.S (Kd.slice 40 k40) 37 w' w.heap.size (fun k_ => some k_ ≠ (v24 : Value).ownBlock) u191000 x191000_3) ∧ Aside0 (w'.heap[gb169]? = some (.cells #[(.slice none 0 0), (.slice none 0 0)] 25 (0, 0))) ∧ Aside0 (w'.heap[gb190]? = some (.cells #[u191000, (.slice none 0 0)] 25 (0, 0))) ∧ Aside0 (Below w.heap.size w w'))
                        case atStart => exact ⟨(([] : List (S40))), (x21_3), (by first | rfl | (simp; done) | (simp [*]; done)), H', ⟨Nat.le_refl _⟩, ⟨by (with_reducible repeat (first | apply Kd.R_alloc | apply Kd.R_drewN | apply Kd.R_drew)); exact HO_11.out⟩, ⟨by (with_reducible repeat (first | apply Kd.R_alloc | apply Kd.R_drewN | apply Kd.R_drew)); exact HO_17.out⟩, ⟨by (with_reducible repeat (first | apply Kd.R_alloc | apply Kd.R_drewN | apply Kd.R_drew)); exact HO_18.out⟩, ⟨by first | exact Kd.R_nil _ _ _ _ _ | exact Kd.N_nil _ _ _ _ _ | exact Kd.V_nil _ _ _ _ _ | exact Kd.Q_nil _ _ _ _ _ | exact Kd.S_nil _ _ _ _ _⟩, ⟨by (with_reducible repeat (first | apply Kd.R_alloc | apply Kd.R_drewN | apply Kd.R_drew)); exact HO_112.out⟩, ⟨by (with_reducible repeat (first | apply Kd.S_alloc | apply Kd.S_drewN | apply Kd.S_drew)); exact Kd.S_mono HO_191000.out (fun _ hk => (by simp [Value.ownBlock]))⟩, ⟨by (with_reducible repeat (first | refine blk_drewN ?_ _ | refine blk_drew ?_ | refine blk_alloc ?_ _)); exact BK169.out⟩, ⟨by (with_reducible repeat (first | refine blk_drewN ?_ _ | refine blk_drew ?_ | refine blk_alloc ?_ _)); exact BK190.out⟩, ⟨by repeat (first | (with_reducible first | exact HB.out | apply below_alloc | apply pw_below_drewN | apply below_drew1 | refine below_set ?_ GE169.out | refine below_set ?_ GE190.out) | exact HB.out)⟩⟩
                        case round =>
                          clear H'
                          try clear c1
                          try clear p1
                          try clear q1
                          try clear hx1
                          try clear c2
                          try clear p2
                          try clear c3
                          try clear c4
                          try clear c4b0
                          try clear c5
                          try clear c6
                          try clear c6b0
                          try clear p6
                          try clear c8
                          try clear c8b0
                          try clear c10
                          try clear c12
                          try clear c12b0
                          try clear c16
                          try clear c16b0
                          try clear c16b1
                          try clear c18
                          try clear p19
                          try clear q19
                          try clear hx19
                          try clear c20
                          try clear c20b0
                          try clear c21
                          try clear c31
                          try clear c31b0
                          try clear c32
                          try clear c32b0
                          try clear c33
                          try clear c33b0
                          try clear hcz23_0
                          try clear hcz23_1
                          try clear hcz7_0
                          try clear hcz7_1
                          try clear hcz9_0
                          try clear hcz9_1
                          try clear hfz23_0
                          try clear hfz23_1
                          try clear hfz7_0
                          try clear hfz7_1
                          try clear hfz9_0
                          try clear hfz9_1
                          try clear hx191_0
                          try clear p191
                          try clear p2
                          try clear p6
                          try clear q191
                          obtain ⟨x24_4, x25_4, rfl, HA, HK4, HO_11, HO_17, HO_18, HO_24, HO_112, HO_191000, BK169, BK190, HB⟩ := hrel
                          cases gk with
                          | zero => exact absurd HA.out (by simp [outline_contours.l4])
                          | succ k4 =>
                            have H := HA.out
                            clear HA
                            simp only [outline_contours.l4] at H
                            by_cases c34 : x25_4 ≤ (rd x5_1 x114_3)
                            · rw [if_pos c34] at H
                              have c34b0 : decide (x25_4 ≤ (rd x5_1 x114_3)) = true := decide_eq_true c34
                              clear c34
                              by_cases c35 : 0 ≤ x25_4
                              · rw [if_pos c35] at H
                                have c35b0 : decide (0 ≤ x25_4) = true := decide_eq_true c35
                                clear c35
                                by_cases c36 : x25_4 < (t182.length : Int)
                                · rw [if_pos c36] at H
                                  have c36b0 : decide (x25_4 < (t182.length : Int)) = true := decide_eq_true c36
                                  clear c36
                                  by_cases c37 : x25_4 < (t186.length : Int)
                                  · rw [if_pos c37] at H
                                    have c37b0 : decide (x25_4 < (t186.length : Int)) = true := decide_eq_true c37
                                    clear c37
                                    by_cases c38 : x25_4 < (x11_2.length : Int)
                                    · rw [if_pos c38] at H
                                      have c38b0 : decide (x25_4 < (x11_2.length : Int)) = true := decide_eq_true c38
                                      clear c38
                                      by_cases c39 : x24_4.length < 5864062014805
                                      · rw [if_pos c39] at H
                                        have LMc39 := Aside0.mk c39
                                        clear c39
                                        obtain ⟨y195, hy195⟩ : ∃ y_ : List (S40), y_ = (x24_4 ++ [(⟨rd t182 x25_4, rd t186 x25_4, ((Go.bits .and .i64 (rd x11_2 x25_4) 1) != 0)⟩ : S40)]) := ⟨_, rfl⟩
                                        replace H : (outline_contours.l4 k4 x11_2 t182 t186 (rd x5_1 x114_3) y195 (wrap64 (x25_4 + 1)) x5_1 (x5_1.length : Int) x114_3 x191000_3) = some (r1, r2) := by first | (rw [hy195]; with_reducible exact H) | (have H2_ := (Option.bind_some _ _).symm.trans H; rw [hy195]; with_reducible exact H2_) | (have H2_ := (Option.bind_some _ _).symm.trans H; with_reducible exact H2_) | with_reducible exact H | (rw [hy195]; exact H) | exact H
                                        have Ny195 := Aside0.mk hy195
                                        clear hy195
                                        have H' := Aside0.mk H
                                        clear H
                                        try go_wp2
                                        have n0_ := Aside0.mk (Kd.R_drew HO_11.out)
                                        have n1_ := Aside0.mk (Kd.R_drew HO_17.out)
                                        have n2_ := Aside0.mk (Kd.R_drew HO_18.out)
                                        have n3_ := Aside0.mk (Kd.R_drew HO_24.out)
                                        have n4_ := Aside0.mk (Kd.R_drew HO_112.out)
                                        have n5_ := Aside0.mk (Kd.S_drew HO_191000.out)
                                        have n6_ := Aside0.mk (blk_drew BK169.out)
                                        have n7_ := Aside0.mk (blk_drew BK190.out)
                                        have n8_ := Aside0.mk (below_drew1 HB.out)
                                        clear HO_11
                                        clear HO_17
                                        clear HO_18
                                        clear HO_24
                                        clear HO_112
                                        clear HO_191000
                                        clear BK169
                                        clear BK190
                                        clear HB
                                        have HO_11 := n0_
                                        have HO_17 := n1_
                                        have HO_18 := n2_
                                        have HO_24 := n3_
                                        have HO_112 := n4_
                                        have HO_191000 := n5_
                                        have BK169 := n6_
                                        have BK190 := n7_
                                        have HB := n8_
                                        clear n0_ n1_ n2_ n3_ n4_ n5_ n6_ n7_ n8_
                                        obtain ⟨Ao41, co41, eo41⟩ := Kd.R_slice HO_17.out
                                        (first | subst eo41 | (injection eo41 with f1_ f2_ f3_; have f4_ := f1_.symm; have f5_ := f3_.symm; clear f1_ f2_ f3_; subst f4_; subst f5_))
                                        have p192 : 0 ≤ (x25_4 : Int) := of_decide_eq_true (by first | (with_reducible assumption) | assumption)
                                        have q192 : x25_4 < (t182.length : Int) := of_decide_eq_true (by first | (with_reducible assumption) | assumption)
                                        obtain ⟨ad192, e192, hx192_0⟩ := Kd.at_int (Kd.R_reads' HO_17.out).2.2 x25_4 p192 q192
                                        cases e192
                                        replace p192 := eq_true p192
                                        replace q192 := eq_true q192
                                        obtain ⟨Ao42, co42, eo42⟩ := Kd.R_slice HO_18.out
                                        (first | subst eo42 | (injection eo42 with f1_ f2_ f3_; have f4_ := f1_.symm; have f5_ := f3_.symm; clear f1_ f2_ f3_; subst f4_; subst f5_))
                                        have p193 : 0 ≤ (x25_4 : Int) := of_decide_eq_true (by first | (with_reducible assumption) | assumption)
                                        have q193 : x25_4 < (t186.length : Int) := of_decide_eq_true (by first | (with_reducible assumption) | assumption)
                                        obtain ⟨ad193, e193, hx193_0⟩ := Kd.at_int (Kd.R_reads' HO_18.out).2.2 x25_4 p193 q193
                                        cases e193
                                        replace p193 := eq_true p193
                                        replace q193 := eq_true q193
                                        have p194 : 0 ≤ (x25_4 : Int) := of_decide_eq_true (by first | (with_reducible assumption) | assumption)
                                        have q194 : x25_4 < (x11_2.length : Int) := of_decide_eq_true (by first | (with_reducible assumption) | assumption)
                                        obtain ⟨ad194, e194, hx194_0⟩ := Kd.at_int (Kd.R_reads' HO_11.out).2.2 x25_4 p194 q194
                                        cases e194
                                        replace p194 := eq_true p194
                                        replace q194 := eq_true q194
                                        refine start_ (n := 19) (S := fun w' => w'.cell? (ad192.add (x25_4).toNat) = some (.int .i64 (rd t182 x25_4)) ∧ w'.cell? (ad193.add (x25_4).toNat) = some (.int .i64 (rd t186 x25_4)) ∧ w'.cell? (ad194.add (x25_4).toNat) = some (.int .i64 (rd x11_2 x25_4))) (ds := [16, 17]) #[false, false, false, false, false, false, false, false, false, false, false, false, false, false, false, false, false, false, false] (by kernel_rfl) rfl rfl ⟨hx192_0, hx193_0, hx194_0⟩ (fun hHeld => ?_); refine with_tabW outline_contours.tab37 outline_contours.bits37 (fun HT_ HW_ => ?_)
                                        generalize wr.drew = w40 at HO_11 HO_17 HO_18 HO_24 HO_112 HO_191000 BK169 BK190 HB hx192_0 hx193_0 hx194_0 hHeld ⊢
                                        refine pure_ (i := 0) (N := some 124) (v := ?_) (a' := ?_) #[true, false, false, false, false, false, false, false, false, false, false, false, false, false, false, false, false, false, false] rfl rfl (any_of HT_.out (by kernel_rfl)) (fun _ _ _ h => h) (Or.inl ⟨by rfl, ?_⟩) ?_ ?_
                                        rotate_left
                                        · intro w'
                                          go_simp
                                          with_reducible rfl
                                        rotate_left
                                        · simp only [Act.put, List.setIfInBounds_toArray, List.set_cons_zero, List.set_cons_succ, i64_w, i32_w]
                                          rfl
                                        refine pure_ (i := 1) (N := some 125) (v := ?_) (a' := ?_) #[true, true, false, false, false, false, false, false, false, false, false, false, false, false, false, false, false, false, false] rfl rfl (any_of HT_.out (by kernel_rfl)) (fun _ _ _ h => h) (Or.inl ⟨by rfl, ?_⟩) ?_ ?_
                                        rotate_left
                                        · intro w'
                                          go_simp
                                          with_reducible rfl
                                        rotate_left
                                        · simp only [Act.put, List.setIfInBounds_toArray, List.set_cons_zero, List.set_cons_succ, i64_w, i32_w]
                                          rfl
                                        refine pure_ (i := 2) (N := some 126) (v := ?_) (a' := ?_) #[true, true, true, false, false, false, false, false, false, false, false, false, false, false, false, false, false, false, false] rfl rfl (any_of HT_.out (by kernel_rfl)) (fun _ _ _ h => h) (Or.inl ⟨by rfl, ?_⟩) ?_ ?_
                                        rotate_left
                                        · intro w'
                                          go_simp
                                          with_reducible rfl
                                        rotate_left
                                        · simp only [Act.put, List.setIfInBounds_toArray, List.set_cons_zero, List.set_cons_succ, i64_w, i32_w]
                                          rfl
                                        refine pure_ (i := 3) (N := some 127) (v := ?_) (a' := ?_) #[true, true, true, true, false, false, false, false, false, false, false, false, false, false, false, false, false, false, false] rfl rfl (any_of HT_.out (by kernel_rfl)) (fun _ _ _ h => h) (Or.inl ⟨by rfl, ?_⟩) ?_ ?_
                                        rotate_left
                                        · intro w'
                                          go_simp
                                          with_reducible rfl
                                        rotate_left
                                        · simp only [Act.put, List.setIfInBounds_toArray, List.set_cons_zero, List.set_cons_succ, i64_w, i32_w]
                                          rfl
                                        refine pure_ (i := 5) (N := some 129) (v := ?_) (a' := ?_) #[true, true, true, true, false, true, false, false, false, false, false, false, false, false, false, false, false, false, false] rfl rfl (any_of HT_.out (by kernel_rfl)) (fun _ _ _ h => h) (Or.inl ⟨by rfl, ?_⟩) ?_ ?_
                                        rotate_left
                                        · intro w'
                                          go_simp
                                          with_reducible rfl
                                        rotate_left
                                        · simp only [Act.put, List.setIfInBounds_toArray, List.set_cons_zero, List.set_cons_succ, i64_w, i32_w]
                                          rfl
                                        refine pure_ (i := 6) (N := some 130) (v := ?_) (a' := ?_) #[true, true, true, true, false, true, true, false, false, false, false, false, false, false, false, false, false, false, false] rfl rfl (any_of HT_.out (by kernel_rfl)) (fun _ _ _ h => h) (Or.inl ⟨by rfl, ?_⟩) ?_ ?_
                                        rotate_left
                                        · intro w'
                                          go_simp
                                          with_reducible rfl
                                        rotate_left
                                        · simp only [Act.put, List.setIfInBounds_toArray, List.set_cons_zero, List.set_cons_succ, i64_w, i32_w]
                                          rfl
                                        refine pure_ (i := 7) (N := some 131) (v := ?_) (a' := ?_) #[true, true, true, true, false, true, true, true, false, false, false, false, false, false, false, false, false, false, false] rfl rfl (any_of HT_.out (by kernel_rfl)) (fun _ _ _ h => h) (Or.inl ⟨by rfl, ?_⟩) ?_ ?_
                                        rotate_left
                                        · intro w'
                                          go_simp
                                          with_reducible rfl
                                        rotate_left
                                        · simp only [Act.put, List.setIfInBounds_toArray, List.set_cons_zero, List.set_cons_succ, i64_w, i32_w]
                                          rfl
                                        refine pure_ (i := 9) (N := some 133) (v := ?_) (a' := ?_) #[true, true, true, true, false, true, true, true, false, true, false, false, false, false, false, false, false, false, false] rfl rfl (any_of HT_.out (by kernel_rfl)) (fun _ _ _ h => h) (Or.inl ⟨by rfl, ?_⟩) ?_ ?_
                                        rotate_left
                                        · intro w'
                                          go_simp
                                          with_reducible rfl
                                        rotate_left
                                        · simp only [Act.put, List.setIfInBounds_toArray, List.set_cons_zero, List.set_cons_succ, i64_w, i32_w]
                                          rfl
                                        refine pure_ (i := 10) (N := some 134) (v := ?_) (a' := ?_) #[true, true, true, true, false, true, true, true, false, true, true, false, false, false, false, false, false, false, false] rfl rfl (any_of HT_.out (by kernel_rfl)) (fun _ _ _ h => h) (Or.inl ⟨by rfl, ?_⟩) ?_ ?_
                                        rotate_left
                                        · intro w'
                                          go_simp
                                          with_reducible rfl
                                        rotate_left
                                        · simp only [Act.put, List.setIfInBounds_toArray, List.set_cons_zero, List.set_cons_succ, i64_w, i32_w]
                                          rfl
                                        refine pure_ (i := 11) (N := some 135) (v := ?_) (a' := ?_) #[true, true, true, true, false, true, true, true, false, true, true, true, false, false, false, false, false, false, false] rfl rfl (any_of HT_.out (by kernel_rfl)) (fun _ _ _ h => h) (Or.inl ⟨by rfl, ?_⟩) ?_ ?_
                                        rotate_left
                                        · intro w'
                                          go_simp
                                          with_reducible rfl
                                        rotate_left
                                        · simp only [Act.put, List.setIfInBounds_toArray, List.set_cons_zero, List.set_cons_succ, i64_w, i32_w]
                                          rfl
                                        refine take_ (i := 4) (N := some 128) (v := ?_) (a' := ?_) #[true, true, true, true, true, true, true, true, false, true, true, true, false, false, false, false, false, false, false] rfl rfl (take_ofW HT_.out HW_.out (by kernel_rfl)) (fun _ _ _ h => h) (Or.inl ⟨by rfl, ?_⟩) hHeld ?_ ?_
                                        rotate_left
                                        · rintro w' ⟨s0, s1, s2⟩
                                          go_simp
                                          with_reducible rfl
                                        rotate_left
                                        · simp only [Act.put, List.setIfInBounds_toArray, List.set_cons_zero, List.set_cons_succ, i64_w, i32_w]
                                          rfl
                                        refine take_ (i := 8) (N := some 132) (v := ?_) (a' := ?_) #[true, true, true, true, true, true, true, true, true, true, true, true, false, false, false, false, false, false, false] rfl rfl (take_ofW HT_.out HW_.out (by kernel_rfl)) (fun _ _ _ h => h) (Or.inl ⟨by rfl, ?_⟩) hHeld ?_ ?_
                                        rotate_left
                                        · rintro w' ⟨s0, s1, s2⟩
                                          go_simp
                                          with_reducible rfl
                                        rotate_left
                                        · simp only [Act.put, List.setIfInBounds_toArray, List.set_cons_zero, List.set_cons_succ, i64_w, i32_w]
                                          rfl
                                        refine take_ (i := 12) (N := some 136) (v := ?_) (a' := ?_) #[true, true, true, true, true, true, true, true, true, true, true, true, true, false, false, false, false, false, false] rfl rfl (take_ofW HT_.out HW_.out (by kernel_rfl)) (fun _ _ _ h => h) (Or.inl ⟨by rfl, ?_⟩) hHeld ?_ ?_
                                        rotate_left
                                        · rintro w' ⟨s0, s1, s2⟩
                                          go_simp
                                          with_reducible rfl
                                        rotate_left
                                        · simp only [Act.put, List.setIfInBounds_toArray, List.set_cons_zero, List.set_cons_succ, i64_w, i32_w]
                                          rfl
                                        refine pure_ (i := 13) (N := some 137) (v := ?_) (a' := ?_) #[true, true, true, true, true, true, true, true, true, true, true, true, true, true, false, false, false, false, false] rfl rfl (any_of HT_.out (by kernel_rfl)) (fun _ _ _ h => h) (Or.inl ⟨by rfl, ?_⟩) ?_ ?_
                                        rotate_left
                                        · intro w'
                                          go_simp
                                          with_reducible rfl
                                        rotate_left
                                        · simp only [Act.put, List.setIfInBounds_toArray, List.set_cons_zero, List.set_cons_succ, i64_w, i32_w]
                                          rfl
                                        refine pure_ (i := 14) (N := some 138) (v := ?_) (a' := ?_) #[true, true, true, true, true, true, true, true, true, true, true, true, true, true, true, false, false, false, false] rfl rfl (any_of HT_.out (by kernel_rfl)) (fun _ _ _ h => h) (Or.inl ⟨by rfl, ?_⟩) ?_ ?_
                                        rotate_left
                                        · intro w'
                                          go_simp
                                          with_reducible rfl
                                        rotate_left
                                        · simp only [Act.put, List.setIfInBounds_toArray, List.set_cons_zero, List.set_cons_succ, i64_w, i32_w]
                                          rfl
                                        refine pure_ (i := 15) (N := some 139) (v := ?_) (a' := ?_) #[true, true, true, true, true, true, true, true, true, true, true, true, true, true, true, true, false, false, false] rfl rfl (any_of HT_.out (by kernel_rfl)) (fun _ _ _ h => h) (Or.inl ⟨by rfl, ?_⟩) ?_ ?_
                                        rotate_left
                                        · intro w'
                                          go_simp
                                          with_reducible rfl
                                        rotate_left
                                        · simp only [Act.put, List.setIfInBounds_toArray, List.set_cons_zero, List.set_cons_succ, i64_w, i32_w]
                                          rfl
                                        refine last_ (i := 16) (N := some 140) #[true, true, true, true, true, true, true, true, true, true, true, true, true, true, true, true, true, false, false] rfl rfl (one_of HT_.out (by kernel_rfl)) (by decide) (fun K hK => ?_)
                                        refine value_ (w1 := ?_) (v := ?_) (by rfl) rfl ?_ ?_
                                        rotate_left 2
                                        · go_simp
                                          constructor
                                          · rfl
                                          · rfl
                                        refine hK.out _ _ ?_
                                        clear hK K
                                        refine norm_ (a' := ?_) ?_ ?_
                                        rotate_left
                                        · show Act.put _ (some 140) _ = _
                                          simp only [Act.put, List.setIfInBounds_toArray, List.set_cons_zero, List.set_cons_succ, i64_w, i32_w]
                                          rfl
                                        refine last_ (i := 17) (N := some 141) #[true, true, true, true, true, true, true, true, true, true, true, true, true, true, true, true, true, true, false] rfl rfl (one_of HT_.out (by kernel_rfl)) (by decide) (fun K hK => ?_)
                                        refine Kd.R_append_step k40 (w0 := w) w.heap.size (by rfl) (.tmp 124) (.tmp 140) 37 40 (.agg #[(.int .i64 0), (.int .i64 0), (.bool false)]) 24 rfl Try.underlying37 info40 rfl (by decide) (by omega) u24 x24_4 (⟨rd t182 x25_4, rd t186 x25_4, ((Go.bits .and .i64 (rd x11_2 x25_4) 1) != 0)⟩ : S40) [.int .i64 (rd t182 x25_4), .int .i64 (rd t186 x25_4), .bool ((Go.bits .and .i64 (rd x11_2 x25_4) 1) != 0)] (fun _ => True) (fun _ => False) rfl rfl ?aP (fun _ hk => hk.elim) ?aF ?aO ?aB ?aS ?aL ?_
                                        (case aP => exact k40_mkM _ _ _ (⟨rd t182 x25_4, rd t186 x25_4, ((Go.bits .and .i64 (rd x11_2 x25_4) 1) != 0)⟩ : S40))
                                        (case aB => exact (by repeat (first | (with_reducible first | exact HB.out | apply below_alloc | apply pw_below_drewN | apply below_drew1 | refine below_set ?_ GE169.out | refine below_set ?_ GE190.out) | exact HB.out)))
                                        (case aF => exact (fun _ _ => trivial))
                                        (case aO => exact (by (with_reducible repeat (first | apply Kd.R_alloc | apply Kd.R_drewN | apply Kd.R_drew)); exact HO_24.out))
                                        (case aS => exact (below_size (by repeat (first | (with_reducible first | exact HB.out | apply below_alloc | apply pw_below_drewN | apply below_drew1 | refine below_set ?_ GE169.out | refine below_set ?_ GE190.out) | exact HB.out))))
                                        (case aL => have := LMc39.out; omega)
                                        intro v196 w43 ho hb hg hat
                                        rw [← Ny195.out] at ho
                                        have n0_ := Aside0.mk (Kd.R_over' (by (with_reducible repeat (first | apply Kd.R_alloc | apply Kd.R_drewN | apply Kd.R_drew)); exact HO_11.out) (Kd.R_typed (by (with_reducible repeat (first | apply Kd.R_alloc | apply Kd.R_drewN | apply Kd.R_drew)); exact HO_24.out)) (by decide) hg)
                                        have n1_ := Aside0.mk (Kd.R_over' (by (with_reducible repeat (first | apply Kd.R_alloc | apply Kd.R_drewN | apply Kd.R_drew)); exact HO_17.out) (Kd.R_typed (by (with_reducible repeat (first | apply Kd.R_alloc | apply Kd.R_drewN | apply Kd.R_drew)); exact HO_24.out)) (by decide) hg)
                                        have n2_ := Aside0.mk (Kd.R_over' (by (with_reducible repeat (first | apply Kd.R_alloc | apply Kd.R_drewN | apply Kd.R_drew)); exact HO_18.out) (Kd.R_typed (by (with_reducible repeat (first | apply Kd.R_alloc | apply Kd.R_drewN | apply Kd.R_drew)); exact HO_24.out)) (by decide) hg)
                                        have n3_ := Aside0.mk (Kd.R_over' (by (with_reducible repeat (first | apply Kd.R_alloc | apply Kd.R_drewN | apply Kd.R_drew)); exact HO_112.out) (Kd.R_typed (by (with_reducible repeat (first | apply Kd.R_alloc | apply Kd.R_drewN | apply Kd.R_drew)); exact HO_24.out)) (by decide) hg)
                                        have n4_ := Aside0.mk (Kd.S_after (ok := (fun _ => True)) (by (with_reducible repeat (first | apply Kd.S_alloc | apply Kd.S_drewN | apply Kd.S_drew)); exact Kd.S_mono HO_191000.out (fun _ hk => ⟨trivial, hk⟩)) hg hat)
                                        have n5_ := Aside0.mk (blk_grown (g := gb169) (o := .cells #[.slice none 0 0, .slice none 0 0] 25 (0, 0)) (by (with_reducible repeat (first | refine blk_drewN ?_ _ | refine blk_drew ?_ | refine blk_alloc ?_ _)); exact BK169.out) hg (Kd.R_ne HO_24.out BK169.out (by decide)))
                                        have n6_ := Aside0.mk (blk_grown (g := gb190) (o := .cells #[u191000, .slice none 0 0] 25 (0, 0)) (by (with_reducible repeat (first | refine blk_drewN ?_ _ | refine blk_drew ?_ | refine blk_alloc ?_ _)); exact BK190.out) hg (Kd.R_ne HO_24.out BK190.out (by decide)))
                                        have n7_ := Aside0.mk (hb)
                                        have n8_ := Aside0.mk (ho)
                                        clear HO_11
                                        clear HO_17
                                        clear HO_18
                                        clear HO_112
                                        clear HO_191000
                                        clear BK169
                                        clear BK190
                                        clear HB
                                        clear HO_24
                                        have HO_11 := n0_
                                        have HO_17 := n1_
                                        have HO_18 := n2_
                                        have HO_112 := n3_
                                        have HO_191000 := n4_
                                        have BK169 := n5_
                                        have BK190 := n6_
                                        have HB := n7_
                                        have HO197 := n8_
                                        clear n0_ n1_ n2_ n3_ n4_ n5_ n6_ n7_ n8_
                                        clear ho hb hg hat
                                        refine hK.out _ _ ?_
                                        clear hK K
                                        refine norm_ (a' := ?_) ?_ ?_
                                        rotate_left
                                        · show Act.put _ (some 141) _ = _
                                          simp only [Act.put, List.setIfInBounds_toArray, List.set_cons_zero, List.set_cons_succ, i64_w, i32_w]
                                          rfl
                                        refine pure_ (i := 18) (N := some 24) (v := ?_) (a' := ?_) #[true, true, true, true, true, true, true, true, true, true, true, true, true, true, true, true, true, true, true] rfl rfl (any_of HT_.out (by kernel_rfl)) (fun _ _ _ h => h) (Or.inl ⟨by rfl, ?_⟩) ?_ ?_
                                        rotate_left
                                        · intro w'
                                          go_simp
                                          with_reducible rfl
                                        rotate_left
                                        · simp only [Act.put, List.setIfInBounds_toArray, List.set_cons_zero, List.set_cons_succ, i64_w, i32_w]
                                          rfl
                                        refine done_ (done_of HT_.out (by kernel_rfl)) ?_
                                        try go_wp2
                                        go_roundg k4
                                        case measure => have := HK1.out; have := HK2.out; have := HK3.out; have := HK4.out; omega
                                        case rel => exact ⟨(y195), (wrap64 (x25_4 + 1)), (by first | rfl | (simp; done) | (simp [*]; done)), H', ⟨by have := HK1.out; have := HK2.out; have := HK3.out; have := HK4.out; omega⟩, ⟨by (with_reducible repeat (first | apply Kd.R_alloc | apply Kd.R_drewN | apply Kd.R_drew)); exact HO_11.out⟩, ⟨by (with_reducible repeat (first | apply Kd.R_alloc | apply Kd.R_drewN | apply Kd.R_drew)); exact HO_17.out⟩, ⟨by (with_reducible repeat (first | apply Kd.R_alloc | apply Kd.R_drewN | apply Kd.R_drew)); exact HO_18.out⟩, ⟨by (with_reducible repeat (first | apply Kd.R_alloc | apply Kd.R_drewN | apply Kd.R_drew)); exact HO197.out⟩, ⟨by (with_reducible repeat (first | apply Kd.R_alloc | apply Kd.R_drewN | apply Kd.R_drew)); exact HO_112.out⟩, ⟨by (with_reducible repeat (first | apply Kd.S_alloc | apply Kd.S_drewN | apply Kd.S_drew)); exact Kd.S_mono HO_191000.out (fun _ hk => hk.2)⟩, ⟨by (with_reducible repeat (first | refine blk_drewN ?_ _ | refine blk_drew ?_ | refine blk_alloc ?_ _)); exact BK169.out⟩, ⟨by (with_reducible repeat (first | refine blk_drewN ?_ _ | refine blk_drew ?_ | refine blk_alloc ?_ _)); exact BK190.out⟩, ⟨by repeat (first | (with_reducible first | exact HB.out | apply below_alloc | apply pw_below_drewN | apply below_drew1 | refine below_set ?_ GE169.out | refine below_set ?_ GE190.out) | exact HB.out)⟩⟩
                                      · rw [if_neg c39] at H
                                        exact absurd H (by simp)
                                    · rw [if_neg c38] at H
                                      exact absurd H (by simp)
                                  · rw [if_neg c37] at H
                                    exact absurd H (by simp)
                                · rw [if_neg c36] at H
                                  exact absurd H (by simp)
                              · rw [if_neg c35] at H
                                exact absurd H (by simp)
                            · rw [if_neg c34] at H
                              have c34b0 : decide (x25_4 ≤ (rd x5_1 x114_3)) = false := decide_eq_false c34
                              clear c34
                              by_cases c44 : x191000_3.length < 5864062014805
                              · rw [if_pos c44] at H
                                have LMc44 := Aside0.mk c44
                                clear c44
                                obtain ⟨y198, hy198⟩ : ∃ y_ : List (List (S40)), y_ = (x191000_3 ++ [x24_4]) := ⟨_, rfl⟩
                                replace H : (outline_contours.l3 k4 x11_2 t182 t186 (wrap64 ((rd x5_1 x114_3) + 1)) x5_1 (x5_1.length : Int) (wrap64 (x114_3 + 1)) y198) = some (r1, r2) := by first | (rw [hy198]; with_reducible exact H) | (have H2_ := (Option.bind_some _ _).symm.trans H; rw [hy198]; with_reducible exact H2_) | (have H2_ := (Option.bind_some _ _).symm.trans H; with_reducible exact H2_) | with_reducible exact H | (rw [hy198]; exact H) | exact H
                                have Ny198 := Aside0.mk hy198
                                clear hy198
                                have H' := Aside0.mk H
                                clear H
                                have hnb45 := NB190_169.out
                                have hnc45 := NB169_190.out
                                have hcz46_0 : wr.cell? ⟨gb190, 0, none⟩ = some (u191000) := (blk_cell BK190.out 0).trans rfl
                                have hcz46_1 : wr.cell? ⟨gb190, 1, none⟩ = some (.slice none 0 0) := (blk_cell BK190.out 1).trans rfl
                                have hfz46_0 := blk_frozen BK190.out 0
                                have hfz46_1 := blk_frozen BK190.out 1
                                obtain ⟨Ao48, co48, eo48⟩ := Kd.R_slice HO_24.out
                                subst eo48
                                go_wp2_with (first | ((with_reducible refine gate_builtin (b := .append) (xs := #[.tmp 143, .tmp 145]) rfl ?_); at_builtin; refine Kd.S_append (Kd.slice 40 k40) (w0 := w) w.heap.size rfl (.tmp 143) (.tmp 145) 22 37 (.slice none 0 0) 24 rfl Try.underlying22 info37 rfl (by decide) (by omega) u191000 x191000_3 x24_4 [.slice Ao48 x24_4.length co48] (fun _ => True) (fun k_ => some k_ = (.slice Ao48 x24_4.length co48 : Value).ownBlock) rfl rfl ?aP (fun k_ hk_ => ((Kd.R_mono (ok' := fun k_ => ((fun _ => True)) k_ ∧ some k_ ≠ (u191000 : Value).ownBlock) (Kd.R_apart' (HO_24.out) (Kd.S_typed HO_191000.out) (by decide)) (fun k_ hk => ⟨trivial, hk.2⟩))).1 k_ hk_.symm) ?aF ?aO ?aB ?aS ?aL ?_; (case aP => exact Kd.M_row (Kd.R_mono (Kd.R_tight rfl (Kd.R_mono (ok' := fun k_ => ((fun _ => True)) k_ ∧ some k_ ≠ (u191000 : Value).ownBlock) (Kd.R_apart' (HO_24.out) (Kd.S_typed HO_191000.out) (by decide)) (fun k_ hk => ⟨trivial, hk.2⟩))) (fun _ h_ => h_))); (case aB => exact (by repeat (first | (with_reducible first | exact HB.out | apply below_alloc | apply pw_below_drewN | apply below_drew1 | refine below_set ?_ GE169.out | refine below_set ?_ GE190.out) | exact HB.out))); (case aF => exact (fun _ _ => trivial)); (case aO => exact (by (with_reducible repeat (first | apply Kd.S_alloc | apply Kd.S_drewN | apply Kd.S_drew)); exact Kd.S_mono HO_191000.out (fun k_ hk => ⟨trivial, fun e_ => hk e_⟩))); (case aS => exact (below_size (by repeat (first | (with_reducible first | exact HB.out | apply below_alloc | apply pw_below_drewN | apply below_drew1 | refine below_set ?_ GE169.out | refine below_set ?_ GE190.out) | exact HB.out)))); (case aL => have := LMc44.out; omega); intro v199 w47 ho hb hg hat; rw [← Ny198.out] at ho; have n0_ := Aside0.mk (Kd.R_over' (by (with_reducible repeat (first | apply Kd.R_alloc | apply Kd.R_drewN | apply Kd.R_drew)); exact HO_11.out) (Kd.S_typed (by (with_reducible repeat (first | apply Kd.S_alloc | apply Kd.S_drewN | apply Kd.S_drew)); exact HO_191000.out)) (by decide) hg); have n1_ := Aside0.mk (Kd.R_over' (by (with_reducible repeat (first | apply Kd.R_alloc | apply Kd.R_drewN | apply Kd.R_drew)); exact HO_17.out) (Kd.S_typed (by (with_reducible repeat (first | apply Kd.S_alloc | apply Kd.S_drewN | apply Kd.S_drew)); exact HO_191000.out)) (by decide) hg); have n2_ := Aside0.mk (Kd.R_over' (by (with_reducible repeat (first | apply Kd.R_alloc | apply Kd.R_drewN | apply Kd.R_drew)); exact HO_18.out) (Kd.S_typed (by (with_reducible repeat (first | apply Kd.S_alloc | apply Kd.S_drewN | apply Kd.S_drew)); exact HO_191000.out)) (by decide) hg); have n3_ := Aside0.mk (Kd.R_over' (by (with_reducible repeat (first | apply Kd.R_alloc | apply Kd.R_drewN | apply Kd.R_drew)); exact HO_112.out) (Kd.S_typed (by (with_reducible repeat (first | apply Kd.S_alloc | apply Kd.S_drewN | apply Kd.S_drew)); exact HO_191000.out)) (by decide) hg); have n4_ := Aside0.mk (blk_grown (g := gb169) (o := .cells #[.slice none 0 0, .slice none 0 0] 25 (0, 0)) (by (with_reducible repeat (first | refine blk_drewN ?_ _ | refine blk_drew ?_ | refine blk_alloc ?_ _)); exact BK169.out) hg (Kd.S_ne HO_191000.out BK169.out (by decide))); have n5_ := Aside0.mk (blk_grown (g := gb190) (o := .cells #[u191000, .slice none 0 0] 25 (0, 0)) (by (with_reducible repeat (first | refine blk_drewN ?_ _ | refine blk_drew ?_ | refine blk_alloc ?_ _)); exact BK190.out) hg (Kd.S_ne HO_191000.out BK190.out (by decide))); have n6_ := Aside0.mk (hb); have n7_ := Aside0.mk (ho); clear HO_11; clear HO_17; clear HO_18; clear HO_112; clear BK169; clear BK190; clear HB; clear HO_191000; clear HO_24; have HO_11 := n0_; have HO_17 := n1_; have HO_18 := n2_; have HO_112 := n3_; have BK169 := n4_; have BK190 := n5_; have HB := n6_; have HO200 := n7_; clear n0_ n1_ n2_ n3_ n4_ n5_ n6_ n7_; clear ho hb hg hat; obtain ⟨Ao49, co49, eo49⟩ := Kd.S_slice HO200.out; subst eo49; have hcz50_0 : w47.cell? ⟨gb190, 0, none⟩ = some (u191000) := (blk_cell BK190.out 0).trans rfl; have hcz50_1 : w47.cell? ⟨gb190, 1, none⟩ = some (.slice none 0 0) := (blk_cell BK190.out 1).trans rfl; have hfz50_0 := blk_frozen BK190.out 0; have hfz50_1 := blk_frozen BK190.out 1))
                                go_roundg k4
                                case measure => have := HK1.out; have := HK2.out; have := HK3.out; have := HK4.out; omega
                                case rel => exact ⟨(wrap64 ((rd x5_1 x114_3) + 1)), (wrap64 (x114_3 + 1)), (y198), (.slice Ao49 y198.length co49), (by first | rfl | (simp; done) | (simp [*]; done)), (by first | rfl | (simp; done) | (simp [*]; done)), H', ⟨by have := HK1.out; have := HK2.out; have := HK3.out; have := HK4.out; omega⟩, ⟨by (with_reducible repeat (first | apply Kd.R_alloc | apply Kd.R_drewN | apply Kd.R_drew)); exact Kd.R_mono (Kd.R_far (p := ⟨gb190, 0, none⟩) (Kd.R_types HO_11.out BK190.out (by decide)) (fun _ hk => hk.2) (.slice Ao49 y198.length co49)) (fun _ hk => ⟨hk.1.1, ⟨hk.1.2.1, hk.1.2.2⟩⟩)⟩, ⟨by (with_reducible repeat (first | apply Kd.R_alloc | apply Kd.R_drewN | apply Kd.R_drew)); exact Kd.R_mono (Kd.R_far (p := ⟨gb190, 0, none⟩) (Kd.R_types HO_17.out BK190.out (by decide)) (fun _ hk => hk.2) (.slice Ao49 y198.length co49)) (fun _ hk => ⟨hk.1.1, ⟨hk.1.2.1, hk.1.2.2⟩⟩)⟩, ⟨by (with_reducible repeat (first | apply Kd.R_alloc | apply Kd.R_drewN | apply Kd.R_drew)); exact Kd.R_mono (Kd.R_far (p := ⟨gb190, 0, none⟩) (Kd.R_types HO_18.out BK190.out (by decide)) (fun _ hk => hk.2) (.slice Ao49 y198.length co49)) (fun _ hk => ⟨hk.1.1, ⟨hk.1.2.1, hk.1.2.2⟩⟩)⟩, ⟨by (with_reducible repeat (first | apply Kd.R_alloc | apply Kd.R_drewN | apply Kd.R_drew)); exact Kd.R_mono (Kd.R_far (p := ⟨gb190, 0, none⟩) (Kd.R_types HO_112.out BK190.out (by decide)) (fun _ hk => hk.2) (.slice Ao49 y198.length co49)) (fun _ hk => ⟨hk.1.1, ⟨hk.1.2.1, hk.1.2.2⟩⟩)⟩, ⟨by (with_reducible repeat (first | apply Kd.S_alloc | apply Kd.S_drewN | apply Kd.S_drew)); exact Kd.S_mono (Kd.S_far (p := ⟨gb190, 0, none⟩) (Kd.S_types HO200.out BK190.out (by decide)) (fun _ hk => hk.2) (.slice Ao49 y198.length co49)) (fun _ hk => trivial)⟩, ⟨by (with_reducible repeat (first | refine blk_drewN ?_ _ | refine blk_drew ?_ | refine blk_alloc ?_ _)); refine blk_far ?_ NB169_190.out _; (with_reducible repeat (first | refine blk_drewN ?_ _ | refine blk_drew ?_ | refine blk_alloc ?_ _)); exact BK169.out⟩, ⟨by (with_reducible repeat (first | refine blk_drewN ?_ _ | refine blk_drew ?_ | refine blk_alloc ?_ _)); refine blk_put (cs := #[u191000, .slice none 0 0]) ?_ 0 _ rfl; (with_reducible repeat (first | refine blk_drewN ?_ _ | refine blk_drew ?_ | refine blk_alloc ?_ _)); exact BK190.out⟩, ⟨by repeat (first | (with_reducible first | exact HB.out | apply below_alloc | apply pw_below_drewN | apply below_drew1 | refine below_set ?_ GE169.out | refine below_set ?_ GE190.out) | exact HB.out)⟩⟩
                              · rw [if_neg c44] at H
                                exact absurd H (by simp)
                      · rw [if_neg c33] at H
                        exact absurd H (by simp)
                    · rw [if_neg c32] at H
                      exact absurd H (by simp)
                  · rw [if_neg c31] at H
                    have c31b0 : decide (x114_3 < (x5_1.length : Int)) = false := decide_eq_false c31
                    clear c31
                    simp only [Option.some.injEq, Prod.mk.injEq] at H
                    obtain ⟨rfl, rfl⟩ := H
                    have hnb51 := NB190_169.out
                    have hnc51 := NB169_190.out
                    have hcz52_0 : wr.cell? ⟨gb190, 0, none⟩ = some (u191000) := (blk_cell BK190.out 0).trans rfl
                    have hcz52_1 : wr.cell? ⟨gb190, 1, none⟩ = some (.slice none 0 0) := (blk_cell BK190.out 1).trans rfl
                    have hfz52_0 := blk_frozen BK190.out 0
                    have hfz52_1 := blk_frozen BK190.out 1
                    obtain ⟨Ao53, co53, eo53⟩ := Kd.S_slice HO_191000.out
                    subst eo53
                    have hcz54_0 : wr.cell? ⟨gb169, 0, none⟩ = some (.slice none 0 0) := (blk_cell BK169.out 0).trans rfl
                    have hcz54_1 : wr.cell? ⟨gb169, 1, none⟩ = some (.slice none 0 0) := (blk_cell BK169.out 1).trans rfl
                    have hfz54_0 := blk_frozen BK169.out 0
                    have hfz54_1 := blk_frozen BK169.out 1
                    go_wp2
                    refine bodyPost_ret (results_cell_row rfl _ _ gb169 25 #[.slice Ao53 x191000_3.length co53, .slice none 0 0] (0, 0) _ rfl (by (with_reducible repeat (first | refine blk_drewN ?_ _ | refine blk_drew ?_ | refine blk_alloc ?_ _)); refine blk_put (cs := #[.slice Ao53 x191000_3.length co53, .slice none 0 0]) ?_ 1 _ rfl; (with_reducible repeat (first | refine blk_drewN ?_ _ | refine blk_drew ?_ | refine blk_alloc ?_ _)); refine blk_put (cs := #[.slice none 0 0, .slice none 0 0]) ?_ 0 _ rfl; (with_reducible repeat (first | refine blk_drewN ?_ _ | refine blk_drew ?_ | refine blk_alloc ?_ _)); exact BK169.out) Try.underlying25 rfl (by kernel_rfl)) rfl ?_
                    exact ⟨_, _, by first | rfl | (simp [errW_none, errW_some] <;> rfl) | (simp [*, errW_none, errW_some] <;> rfl), by (with_reducible repeat (first | apply Kd.S_alloc | apply Kd.S_drewN | apply Kd.S_drew)); exact Kd.S_mono (Kd.S_far (p := ⟨gb169, 1, none⟩) (Kd.S_far (p := ⟨gb169, 0, none⟩) (Kd.S_types HO_191000.out BK169.out (by decide)) (fun _ hk => hk.2) (.slice Ao53 x191000_3.length co53)) (fun _ hk => hk.2) (.slice none 0 0)) (fun _ hk => trivial), by first | exact Kd.R_nil _ _ _ _ _ | exact Kd.N_nil _ _ _ _ _ | exact Kd.V_nil _ _ _ _ _ | exact Kd.Q_nil _ _ _ _ _ | exact Kd.S_nil _ _ _ _ _, by repeat (first | (with_reducible first | exact HB.out | apply below_alloc | apply pw_below_drewN | apply below_drew1 | refine below_set ?_ GE169.out | refine below_set ?_ GE190.out) | exact HB.out)⟩

end Go.Proofs.Ytmppdgjnibamlab.POl
