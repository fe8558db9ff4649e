/- Printed by this session's run of print.py (with contracts of its own taken as given): the functions that these laws reach, their contracts. No condition. -/
import Derived.Test.YtmppdgjnibamlabPOlx0
import Derived.Test.YtmppdgjnibamlabPOlx1
import Derived.Test.YtmppdgjnibamlabPOlx2
namespace Go.Proofs.Ytmppdgjnibamlab.POl
open Go.RowKit Go.Proofs.YtmppdgjnibamlabW.PrintWords Go.Proofs.YtmppdgjnibamlabW.PrintLast Go.Proofs.YtmppdgjnibamlabW.PrintMore
attribute [local go_sem] max2_int min2_int max_two min_two max_three min_three max_four min_four   -- for this text's walks alone
set_option linter.unusedVariables false
set_option linter.unusedSimpArgs false

attribute [local go_sem high] eqA40 eqA82
/-! ### foundryref12_Same: function 21 -/
mutual
def foundryref12_Same.j0 : Nat → Bool → List (List (S40)) → List (S82) → List (List (S40)) → List (S82) → Option (Bool)
  | 0, _, _, _, _, _ => none
  | k + 1, x23, x225000, x225001, x226000, x226001 => if x23 = true then (some false) else (foundryref12_Same.l0 k 0 x225000 x225001 x226000 x226001)
def foundryref12_Same.l0 : Nat → Int → List (List (S40)) → List (S82) → List (List (S40)) → List (S82) → Option (Bool)
  | 0, _, _, _, _, _ => none
  | k + 1, x5, x225000, x225001, x226000, x226001 => if x5 < (x225000.length : Int) then (if 0 ≤ x5 then (if x5 < (x226000.length : Int) then (if ((rd_L3 x225000 x5).length : Int) = ((rd_L3 x226000 x5).length : Int) then (foundryref12_Same.l1 k x5 0 x225000 x225001 x226000 x226001) else (some false)) else (none)) else (none)) else (foundryref12_Same.l2 k 0 x225000 x225001 x226000 x226001)
def foundryref12_Same.l1 : Nat → Int → Int → List (List (S40)) → List (S82) → List (List (S40)) → List (S82) → Option (Bool)
  | 0, _, _, _, _, _, _ => none
  | k + 1, x5, x6, x225000, x225001, x226000, x226001 => if 0 ≤ x5 then (if x5 < (x225000.length : Int) then (if x6 < ((rd_L3 x225000 x5).length : Int) then (if 0 ≤ x6 then (if x5 < (x226000.length : Int) then (if x6 < ((rd_L3 x226000 x5).length : Int) then (if (!(((rd_T40 (rd_L3 x225000 x5) x6).f0) == ((rd_T40 (rd_L3 x226000 x5) x6).f0)) || (!(((rd_T40 (rd_L3 x225000 x5) x6).f1) == ((rd_T40 (rd_L3 x226000 x5) x6).f1)) || (!(((rd_T40 (rd_L3 x225000 x5) x6).f2) == ((rd_T40 (rd_L3 x226000 x5) x6).f2))))) = true then (some false) else (foundryref12_Same.l1 k x5 (wrap64 (x6 + 1)) x225000 x225001 x226000 x226001)) else (none)) else (none)) else (none)) else (foundryref12_Same.l0 k (wrap64 (x5 + 1)) x225000 x225001 x226000 x226001)) else (none)) else (none)
def foundryref12_Same.l2 : Nat → Int → List (List (S40)) → List (S82) → List (List (S40)) → List (S82) → Option (Bool)
  | 0, _, _, _, _, _ => none
  | k + 1, x7, x225000, x225001, x226000, x226001 => if x7 < (x225001.length : Int) then (if 0 ≤ x7 then (if x7 < (x226001.length : Int) then (if (!(((rd_T82 x225001 x7).f0) == ((rd_T82 x226001 x7).f0)) || (!(((rd_T82 x225001 x7).f1) == ((rd_T82 x226001 x7).f1)) || (!(((rd_T82 x225001 x7).f2) == ((rd_T82 x226001 x7).f2))))) = true then (some false) else (foundryref12_Same.l2 k (wrap64 (x7 + 1)) x225000 x225001 x226000 x226001)) else (none)) else (none)) else (some true)
end
def foundryref12_Same.f (k : Nat) (l0_0 : List (List (S40))) (l0_1 : List (S82)) (l1_0 : List (List (S40))) (l1_1 : List (S82)) : Option (Bool) := if (l0_0.length : Int) = (l1_0.length : Int) then (foundryref12_Same.j0 k ((l0_1.length : Int) != (l1_1.length : Int)) l0_0 l0_1 l1_0 l1_1) else (foundryref12_Same.j0 k true l0_0 l0_1 l1_0 l1_1)
theorem foundryref12_Same.mono_l : ∀ k, (∀ y0 y1 y2 y3 y4, LeO (foundryref12_Same.j0 k y0 y1 y2 y3 y4) (foundryref12_Same.j0 (k + 1) y0 y1 y2 y3 y4)) ∧ (∀ y0 y1 y2 y3 y4, LeO (foundryref12_Same.l0 k y0 y1 y2 y3 y4) (foundryref12_Same.l0 (k + 1) y0 y1 y2 y3 y4)) ∧ (∀ y0 y1 y2 y3 y4 y5, LeO (foundryref12_Same.l1 k y0 y1 y2 y3 y4 y5) (foundryref12_Same.l1 (k + 1) y0 y1 y2 y3 y4 y5)) ∧ (∀ y0 y1 y2 y3 y4, LeO (foundryref12_Same.l2 k y0 y1 y2 y3 y4) (foundryref12_Same.l2 (k + 1) y0 y1 y2 y3 y4))
  | 0 => ⟨fun _ _ _ _ _ r h => by simp [foundryref12_Same.j0] at h, fun _ _ _ _ _ r h => by simp [foundryref12_Same.l0] at h, fun _ _ _ _ _ _ r h => by simp [foundryref12_Same.l1] at h, fun _ _ _ _ _ r h => by simp [foundryref12_Same.l2] at h⟩
  | k + 1 => by
    obtain ⟨ih0, ih1, ih2, ih3⟩ := foundryref12_Same.mono_l k
    refine ⟨?_, ?_, ?_, ?_⟩
    · intro y0 y1 y2 y3 y4
      unfold foundryref12_Same.j0
      repeat' first
      | (with_reducible exact ih0 _ _ _ _ _)
      | (with_reducible exact ih1 _ _ _ _ _)
      | (with_reducible exact ih2 _ _ _ _ _ _)
      | (with_reducible exact ih3 _ _ _ _ _)
      | (with_reducible exact LeO.refl _)
      | (with_reducible exact LeO.none _)
      | (with_reducible refine LeO.ite ?_ ?_)
      | (with_reducible refine LeO.bind ?_ (fun _ => ?_))
      | exact ih0 _ _ _ _ _
      | exact ih1 _ _ _ _ _
      | exact ih2 _ _ _ _ _ _
      | exact ih3 _ _ _ _ _
      | exact LeO.none _
      | refine LeO.ite ?_ ?_
      | refine LeO.bind ?_ (fun _ => ?_)
    · intro y0 y1 y2 y3 y4
      unfold foundryref12_Same.l0
      repeat' first
      | (with_reducible exact ih0 _ _ _ _ _)
      | (with_reducible exact ih1 _ _ _ _ _)
      | (with_reducible exact ih2 _ _ _ _ _ _)
      | (with_reducible exact ih3 _ _ _ _ _)
      | (with_reducible exact LeO.refl _)
      | (with_reducible exact LeO.none _)
      | (with_reducible refine LeO.ite ?_ ?_)
      | (with_reducible refine LeO.bind ?_ (fun _ => ?_))
      | exact ih0 _ _ _ _ _
      | exact ih1 _ _ _ _ _
      | exact ih2 _ _ _ _ _ _
      | exact ih3 _ _ _ _ _
      | exact LeO.none _
      | refine LeO.ite ?_ ?_
      | refine LeO.bind ?_ (fun _ => ?_)
    · intro y0 y1 y2 y3 y4 y5
      unfold foundryref12_Same.l1
      repeat' first
      | (with_reducible exact ih0 _ _ _ _ _)
      | (with_reducible exact ih1 _ _ _ _ _)
      | (with_reducible exact ih2 _ _ _ _ _ _)
      | (with_reducible exact ih3 _ _ _ _ _)
      | (with_reducible exact LeO.refl _)
      | (with_reducible exact LeO.none _)
      | (with_reducible refine LeO.ite ?_ ?_)
      | (with_reducible refine LeO.bind ?_ (fun _ => ?_))
      | exact ih0 _ _ _ _ _
      | exact ih1 _ _ _ _ _
      | exact ih2 _ _ _ _ _ _
      | exact ih3 _ _ _ _ _
      | exact LeO.none _
      | refine LeO.ite ?_ ?_
      | refine LeO.bind ?_ (fun _ => ?_)
    · intro y0 y1 y2 y3 y4
      unfold foundryref12_Same.l2
      repeat' first
      | (with_reducible exact ih0 _ _ _ _ _)
      | (with_reducible exact ih1 _ _ _ _ _)
      | (with_reducible exact ih2 _ _ _ _ _ _)
      | (with_reducible exact ih3 _ _ _ _ _)
      | (with_reducible exact LeO.refl _)
      | (with_reducible exact LeO.none _)
      | (with_reducible refine LeO.ite ?_ ?_)
      | (with_reducible refine LeO.bind ?_ (fun _ => ?_))
      | exact ih0 _ _ _ _ _
      | exact ih1 _ _ _ _ _
      | exact ih2 _ _ _ _ _ _
      | exact ih3 _ _ _ _ _
      | exact LeO.none _
      | refine LeO.ite ?_ ?_
      | refine LeO.bind ?_ (fun _ => ?_)
theorem foundryref12_Same.mono : ∀ a0 a1 a2 a3 k, LeO (foundryref12_Same.f k a0 a1 a2 a3) (foundryref12_Same.f (k + 1) a0 a1 a2 a3) := by
  intro a0 a1 a2 a3 k
  obtain ⟨ih0, ih1, ih2, ih3⟩ := foundryref12_Same.mono_l k
  unfold foundryref12_Same.f
  repeat' first
      | (with_reducible exact ih0 _ _ _ _ _)
      | (with_reducible exact ih1 _ _ _ _ _)
      | (with_reducible exact ih2 _ _ _ _ _ _)
      | (with_reducible exact ih3 _ _ _ _ _)
      | (with_reducible exact LeO.refl _)
      | (with_reducible exact LeO.none _)
      | (with_reducible refine LeO.ite ?_ ?_)
      | (with_reducible refine LeO.bind ?_ (fun _ => ?_))
      | exact ih0 _ _ _ _ _
      | exact ih1 _ _ _ _ _
      | exact ih2 _ _ _ _ _ _
      | exact ih3 _ _ _ _ _
      | exact LeO.none _
      | refine LeO.ite ?_ ?_
      | refine LeO.bind ?_ (fun _ => ?_)
set_option maxHeartbeats 8000000 in
set_option maxRecDepth 100000 in
theorem foundryref12_Same.calls (k : Nat) (A0_0 : Option Addr) (c0_0 : Nat) (l0_0 : List (List (S40))) (A0_1 : Option Addr) (c0_1 : Nat) (l0_1 : List (S82)) (A1_0 : Option Addr) (c1_0 : Nat) (l1_0 : List (List (S40))) (A1_1 : Option Addr) (c1_1 : Nat) (l1_1 : List (S82)) (r : Bool) (w : World) (hr0_0 : Kd.C (Kd.slice 40 k40) w A0_0 l0_0.length l0_0) (hc0_0 : l0_0.length ≤ c0_0) (hr0_1 : Kd.C k82 w A0_1 l0_1.length l0_1) (hc0_1 : l0_1.length ≤ c0_1) (hr1_0 : Kd.C (Kd.slice 40 k40) w A1_0 l1_0.length l1_0) (hc1_0 : l1_0.length ≤ c1_0) (hr1_1 : Kd.C k82 w A1_1 l1_1.length l1_1) (hc1_1 : l1_1.length ≤ c1_1) (h : foundryref12_Same.f k l0_0 l0_1 l1_0 l1_1 = some r) :
    Calls Try.prog 21 #[.agg #[.slice A0_0 l0_0.length c0_0, .slice A0_1 l0_1.length c0_1], .agg #[.slice A1_0 l1_0.length c1_0, .slice A1_1 l1_1.length c1_1]] w fun e w' => e = .returned (.bool r) ∧ Below w.heap.size w w' := by
  have hu25 := Try.underlying25
  have hu40 := Try.underlying40
  have hu82 := Try.underlying82
  have HR0_0 := Aside0.mk hr0_0
  have HC0_0 := Aside0.mk hc0_0
  clear hr0_0 hc0_0
  have HR0_1 := Aside0.mk hr0_1
  have HC0_1 := Aside0.mk hc0_1
  clear hr0_1 hc0_1
  have HR1_0 := Aside0.mk hr1_0
  have HC1_0 := Aside0.mk hc1_0
  clear hr1_0 hc1_0
  have HR1_1 := Aside0.mk hr1_1
  have HC1_1 := Aside0.mk hc1_1
  clear hr1_1 hc1_1
  have HB := Aside0.mk (Below.refl w.heap.size w)
  have H : (if (l0_0.length : Int) = (l1_0.length : Int) then (foundryref12_Same.j0 k ((l0_1.length : Int) != (l1_1.length : Int)) l0_0 l0_1 l1_0 l1_1) else (foundryref12_Same.j0 k true l0_0 l0_1 l1_0 l1_1)) = some r := h
  clear h
  have HC3 := Aside0.mk H
  clear H
  go_enter Try.func21, Try.ntmps21
  go_upto_region 1 with (first | ((with_reducible refine gate_dst (N := 2) rfl ?_); (try (refine gate_guard (by rfl) ?_; dsimp only)); refine box_event ?hg (N := 2) ?hd (cs := #[.slice A0_0 l0_0.length c0_0, .slice A0_1 l0_1.length c0_1]) (t := 25) ?hr ?_; (case hd => rfl); (case hg => rfl); (case hr => first | (go_simp; done) | (go_simp; rfl)); intro gb224 hg w4 hbox hb; have n0_ := Aside0.mk (below_step (by repeat (first | (with_reducible first | exact HB.out | apply below_alloc | apply pw_below_drewN | apply below_drew1) | exact HB.out)) hb); have n1_ := Aside0.mk (hbox); have n2_ := Aside0.mk ((by rw [hg]; exact (below_size (by repeat (first | (with_reducible first | exact HB.out | apply below_alloc | apply pw_below_drewN | apply below_drew1) | exact HB.out))) : w.heap.size ≤ gb224)); have n3_ := Aside0.mk ((by rw [hg]; exact (below_size (by repeat (first | (with_reducible first | exact HB.out | apply below_alloc | apply pw_below_drewN | apply below_drew1) | exact HB.out))) : w.heap.size ≤ gb224)); clear HB; have HB := n0_; have BK224 := n1_; have GW224 := n2_; have GE224 := n3_; clear n0_ n1_ n2_ n3_; clear hb hbox hg) | ((with_reducible refine gate_dst (N := 3) rfl ?_); (try (refine gate_guard (by rfl) ?_; dsimp only)); refine box_event ?hg (N := 3) ?hd (cs := #[.slice A1_0 l1_0.length c1_0, .slice A1_1 l1_1.length c1_1]) (t := 25) ?hr ?_; (case hd => rfl); (case hg => rfl); (case hr => first | (go_simp; done) | (go_simp; rfl)); intro gb225 hg w5 hbox hb; have n0_ := Aside0.mk (blk_below (g := gb224) (o := .cells #[.slice A0_0 l0_0.length c0_0, .slice A0_1 l0_1.length c0_1] 25 (0, 0)) (by (with_reducible repeat (first | refine blk_drewN ?_ _ | refine blk_drew ?_ | refine blk_alloc ?_ _)); exact BK224.out) hb); have n1_ := Aside0.mk (below_step (by repeat (first | (with_reducible first | exact HB.out | apply below_alloc | apply pw_below_drewN | apply below_drew1 | refine below_set ?_ GE224.out) | exact HB.out)) hb); have n2_ := Aside0.mk (hbox); have n3_ := Aside0.mk ((by rw [hg]; exact (below_size (by repeat (first | (with_reducible first | exact HB.out | apply below_alloc | apply pw_below_drewN | apply below_drew1 | refine below_set ?_ GE224.out) | exact HB.out))) : w.heap.size ≤ gb225)); have n4_ := Aside0.mk ((by rw [hg]; exact (below_size (by repeat (first | (with_reducible first | exact HB.out | apply below_alloc | apply pw_below_drewN | apply below_drew1 | refine below_set ?_ GE224.out) | exact HB.out))) : w.heap.size ≤ gb225)); have n5_ := Aside0.mk ((by rw [hg]; exact Nat.ne_of_lt (blk_lt (g := gb224) (o := .cells #[.slice A0_0 l0_0.length c0_0, .slice A0_1 l0_1.length c0_1] 25 (0, 0)) (by (with_reducible repeat (first | refine blk_drewN ?_ _ | refine blk_drew ?_ | refine blk_alloc ?_ _)); exact BK224.out)) : gb224 ≠ gb225)); have n6_ := Aside0.mk ((by rw [hg]; exact Nat.ne_of_gt (blk_lt (g := gb224) (o := .cells #[.slice A0_0 l0_0.length c0_0, .slice A0_1 l0_1.length c0_1] 25 (0, 0)) (by (with_reducible repeat (first | refine blk_drewN ?_ _ | refine blk_drew ?_ | refine blk_alloc ?_ _)); exact BK224.out)) : gb225 ≠ gb224)); clear BK224; clear HB; have BK224 := n0_; have HB := n1_; have BK225 := n2_; have GW225 := n3_; have GE225 := n4_; have NB224_225 := n5_; have NB225_224 := n6_; clear n0_ n1_ n2_ n3_ n4_ n5_ n6_; clear hb hbox hg))
  repeat (go_quiet (first | ((with_reducible refine gate_dst (N := 2) rfl ?_); (try (refine gate_guard (by rfl) ?_; dsimp only)); refine box_event ?hg (N := 2) ?hd (cs := #[.slice A0_0 l0_0.length c0_0, .slice A0_1 l0_1.length c0_1]) (t := 25) ?hr ?_; (case hd => rfl); (case hg => rfl); (case hr => first | (go_simp; done) | (go_simp; rfl)); intro gb224 hg w4 hbox hb; have n0_ := Aside0.mk (below_step (by repeat (first | (with_reducible first | exact HB.out | apply below_alloc | apply pw_below_drewN | apply below_drew1) | exact HB.out)) hb); have n1_ := Aside0.mk (hbox); have n2_ := Aside0.mk ((by rw [hg]; exact (below_size (by repeat (first | (with_reducible first | exact HB.out | apply below_alloc | apply pw_below_drewN | apply below_drew1) | exact HB.out))) : w.heap.size ≤ gb224)); have n3_ := Aside0.mk ((by rw [hg]; exact (below_size (by repeat (first | (with_reducible first | exact HB.out | apply below_alloc | apply pw_below_drewN | apply below_drew1) | exact HB.out))) : w.heap.size ≤ gb224)); clear HB; have HB := n0_; have BK224 := n1_; have GW224 := n2_; have GE224 := n3_; clear n0_ n1_ n2_ n3_; clear hb hbox hg) | ((with_reducible refine gate_dst (N := 3) rfl ?_); (try (refine gate_guard (by rfl) ?_; dsimp only)); refine box_event ?hg (N := 3) ?hd (cs := #[.slice A1_0 l1_0.length c1_0, .slice A1_1 l1_1.length c1_1]) (t := 25) ?hr ?_; (case hd => rfl); (case hg => rfl); (case hr => first | (go_simp; done) | (go_simp; rfl)); intro gb225 hg w5 hbox hb; have n0_ := Aside0.mk (blk_below (g := gb224) (o := .cells #[.slice A0_0 l0_0.length c0_0, .slice A0_1 l0_1.length c0_1] 25 (0, 0)) (by (with_reducible repeat (first | refine blk_drewN ?_ _ | refine blk_drew ?_ | refine blk_alloc ?_ _)); exact BK224.out) hb); have n1_ := Aside0.mk (below_step (by repeat (first | (with_reducible first | exact HB.out | apply below_alloc | apply pw_below_drewN | apply below_drew1 | refine below_set ?_ GE224.out) | exact HB.out)) hb); have n2_ := Aside0.mk (hbox); have n3_ := Aside0.mk ((by rw [hg]; exact (below_size (by repeat (first | (with_reducible first | exact HB.out | apply below_alloc | apply pw_below_drewN | apply below_drew1 | refine below_set ?_ GE224.out) | exact HB.out))) : w.heap.size ≤ gb225)); have n4_ := Aside0.mk ((by rw [hg]; exact (below_size (by repeat (first | (with_reducible first | exact HB.out | apply below_alloc | apply pw_below_drewN | apply below_drew1 | refine below_set ?_ GE224.out) | exact HB.out))) : w.heap.size ≤ gb225)); have n5_ := Aside0.mk ((by rw [hg]; exact Nat.ne_of_lt (blk_lt (g := gb224) (o := .cells #[.slice A0_0 l0_0.length c0_0, .slice A0_1 l0_1.length c0_1] 25 (0, 0)) (by (with_reducible repeat (first | refine blk_drewN ?_ _ | refine blk_drew ?_ | refine blk_alloc ?_ _)); exact BK224.out)) : gb224 ≠ gb225)); have n6_ := Aside0.mk ((by rw [hg]; exact Nat.ne_of_gt (blk_lt (g := gb224) (o := .cells #[.slice A0_0 l0_0.length c0_0, .slice A0_1 l0_1.length c0_1] 25 (0, 0)) (by (with_reducible repeat (first | refine blk_drewN ?_ _ | refine blk_drew ?_ | refine blk_alloc ?_ _)); exact BK224.out)) : gb225 ≠ gb224)); clear BK224; clear HB; have BK224 := n0_; have HB := n1_; have BK225 := n2_; have GW225 := n3_; have GE225 := n4_; have NB224_225 := n5_; have NB225_224 := n6_; clear n0_ n1_ n2_ n3_ n4_ n5_ n6_; clear hb hbox hg)); go_upto_region 1 with (first | ((with_reducible refine gate_dst (N := 2) rfl ?_); (try (refine gate_guard (by rfl) ?_; dsimp only)); refine box_event ?hg (N := 2) ?hd (cs := #[.slice A0_0 l0_0.length c0_0, .slice A0_1 l0_1.length c0_1]) (t := 25) ?hr ?_; (case hd => rfl); (case hg => rfl); (case hr => first | (go_simp; done) | (go_simp; rfl)); intro gb224 hg w4 hbox hb; have n0_ := Aside0.mk (below_step (by repeat (first | (with_reducible first | exact HB.out | apply below_alloc | apply pw_below_drewN | apply below_drew1) | exact HB.out)) hb); have n1_ := Aside0.mk (hbox); have n2_ := Aside0.mk ((by rw [hg]; exact (below_size (by repeat (first | (with_reducible first | exact HB.out | apply below_alloc | apply pw_below_drewN | apply below_drew1) | exact HB.out))) : w.heap.size ≤ gb224)); have n3_ := Aside0.mk ((by rw [hg]; exact (below_size (by repeat (first | (with_reducible first | exact HB.out | apply below_alloc | apply pw_below_drewN | apply below_drew1) | exact HB.out))) : w.heap.size ≤ gb224)); clear HB; have HB := n0_; have BK224 := n1_; have GW224 := n2_; have GE224 := n3_; clear n0_ n1_ n2_ n3_; clear hb hbox hg) | ((with_reducible refine gate_dst (N := 3) rfl ?_); (try (refine gate_guard (by rfl) ?_; dsimp only)); refine box_event ?hg (N := 3) ?hd (cs := #[.slice A1_0 l1_0.length c1_0, .slice A1_1 l1_1.length c1_1]) (t := 25) ?hr ?_; (case hd => rfl); (case hg => rfl); (case hr => first | (go_simp; done) | (go_simp; rfl)); intro gb225 hg w5 hbox hb; have n0_ := Aside0.mk (blk_below (g := gb224) (o := .cells #[.slice A0_0 l0_0.length c0_0, .slice A0_1 l0_1.length c0_1] 25 (0, 0)) (by (with_reducible repeat (first | refine blk_drewN ?_ _ | refine blk_drew ?_ | refine blk_alloc ?_ _)); exact BK224.out) hb); have n1_ := Aside0.mk (below_step (by repeat (first | (with_reducible first | exact HB.out | apply below_alloc | apply pw_below_drewN | apply below_drew1 | refine below_set ?_ GE224.out) | exact HB.out)) hb); have n2_ := Aside0.mk (hbox); have n3_ := Aside0.mk ((by rw [hg]; exact (below_size (by repeat (first | (with_reducible first | exact HB.out | apply below_alloc | apply pw_below_drewN | apply below_drew1 | refine below_set ?_ GE224.out) | exact HB.out))) : w.heap.size ≤ gb225)); have n4_ := Aside0.mk ((by rw [hg]; exact (below_size (by repeat (first | (with_reducible first | exact HB.out | apply below_alloc | apply pw_below_drewN | apply below_drew1 | refine below_set ?_ GE224.out) | exact HB.out))) : w.heap.size ≤ gb225)); have n5_ := Aside0.mk ((by rw [hg]; exact Nat.ne_of_lt (blk_lt (g := gb224) (o := .cells #[.slice A0_0 l0_0.length c0_0, .slice A0_1 l0_1.length c0_1] 25 (0, 0)) (by (with_reducible repeat (first | refine blk_drewN ?_ _ | refine blk_drew ?_ | refine blk_alloc ?_ _)); exact BK224.out)) : gb224 ≠ gb225)); have n6_ := Aside0.mk ((by rw [hg]; exact Nat.ne_of_gt (blk_lt (g := gb224) (o := .cells #[.slice A0_0 l0_0.length c0_0, .slice A0_1 l0_1.length c0_1] 25 (0, 0)) (by (with_reducible repeat (first | refine blk_drewN ?_ _ | refine blk_drew ?_ | refine blk_alloc ?_ _)); exact BK224.out)) : gb225 ≠ gb224)); clear BK224; clear HB; have BK224 := n0_; have HB := n1_; have BK225 := n2_; have GW225 := n3_; have GE225 := n4_; have NB224_225 := n5_; have NB225_224 := n6_; clear n0_ n1_ n2_ n3_ n4_ n5_ n6_; clear hb hbox hg)))
  (try simp only [Act.put, List.setIfInBounds_toArray, List.set_cons_zero, List.set_cons_succ])
  go_cut [23] (fun v23 wc => ∃ (kq : Nat) (x23_2 : Bool), v23 = .bool x23_2 ∧ Aside0 (foundryref12_Same.j0 kq x23_2 l0_0 l0_1 l1_0 l1_1 = some r) ∧ Aside0 (kq ≤ k) ∧ Aside0 (wc.heap[gb224]? = some (.cells #[(.slice A0_0 l0_0.length c0_0), (.slice A0_1 l0_1.length c0_1)] 25 (0, 0))) ∧ Aside0 (wc.heap[gb225]? = some (.cells #[(.slice A1_0 l1_0.length c1_0), (.slice A1_1 l1_1.length c1_1)] 25 (0, 0))) ∧ Aside0 (Below w.heap.size w wc))
  case first =>
    have H := HC3.out
    clear HC3
    by_cases c6 : (l0_0.length : Int) = (l1_0.length : Int)
    · rw [if_pos c6] at H
      have c6b0 : ((l0_0.length : Int) == (l1_0.length : Int)) = true := beq_iff_eq.mpr c6
      have c6b1 : ((l0_0.length : Int) != (l1_0.length : Int)) = false := bne_eq_false_iff_eq.mpr c6
      have c6b2 : (l0_0.length == l1_0.length) = true := by first | simpa using c6 | (simp at c6 ⊢; omega)
      clear c6
      (first | rw [c6b0] | (simp only [i64_w, i32_w]; rw [c6b0]) | skip)
      have H' := Aside0.mk H
      clear H
      have hnb7 := NB224_225.out
      have hnc7 := NB225_224.out
      have hcz8_0 : w5.cell? ⟨gb224, 0, none⟩ = some (.slice A0_0 l0_0.length c0_0) := (blk_cell BK224.out 0).trans rfl
      have hcz8_1 : w5.cell? ⟨gb224, 1, none⟩ = some (.slice A0_1 l0_1.length c0_1) := (blk_cell BK224.out 1).trans rfl
      have hfz8_0 := blk_frozen BK224.out 0
      have hfz8_1 := blk_frozen BK224.out 1
      have hcz9_0 : w5.cell? ⟨gb225, 0, none⟩ = some (.slice A1_0 l1_0.length c1_0) := (blk_cell BK225.out 0).trans rfl
      have hcz9_1 : w5.cell? ⟨gb225, 1, none⟩ = some (.slice A1_1 l1_1.length c1_1) := (blk_cell BK225.out 1).trans rfl
      have hfz9_0 := blk_frozen BK225.out 0
      have hfz9_1 := blk_frozen BK225.out 1
      go_wp2
      repeat (go_quiet (fail); try go_wp2)
      go_meet
      case rel => exact ⟨_, (((l0_1.length : Int) != (l1_1.length : Int))), (by first | rfl | (simp; done) | (simp [*]; done)), H', ⟨by first | omega | exact Nat.le_refl _⟩, ⟨by (with_reducible repeat (first | refine blk_drewN ?_ _ | refine blk_drew ?_ | refine blk_alloc ?_ _)); exact BK224.out⟩, ⟨by (with_reducible repeat (first | refine blk_drewN ?_ _ | refine blk_drew ?_ | refine blk_alloc ?_ _)); exact BK225.out⟩, ⟨by repeat (first | (with_reducible first | exact HB.out | apply below_alloc | apply pw_below_drewN | apply below_drew1 | refine below_set ?_ GE224.out | refine below_set ?_ GE225.out) | exact HB.out)⟩⟩
    · rw [if_neg c6] at H
      have c6b0 : ((l0_0.length : Int) == (l1_0.length : Int)) = false := beq_eq_false_iff_ne.mpr c6
      have c6b1 : ((l0_0.length : Int) != (l1_0.length : Int)) = true := bne_iff_ne.mpr c6
      have c6b2 : (l0_0.length == l1_0.length) = false := by first | simpa using c6 | (simp at c6 ⊢; omega)
      (first | rw [c6b0] | (simp only [i64_w, i32_w]; rw [c6b0]) | skip)
      have H' := Aside0.mk H
      clear H
      have hnb10 := NB224_225.out
      have hnc10 := NB225_224.out
      have hcz11_0 : w5.cell? ⟨gb224, 0, none⟩ = some (.slice A0_0 l0_0.length c0_0) := (blk_cell BK224.out 0).trans rfl
      have hcz11_1 : w5.cell? ⟨gb224, 1, none⟩ = some (.slice A0_1 l0_1.length c0_1) := (blk_cell BK224.out 1).trans rfl
      have hfz11_0 := blk_frozen BK224.out 0
      have hfz11_1 := blk_frozen BK224.out 1
      have hcz12_0 : w5.cell? ⟨gb225, 0, none⟩ = some (.slice A1_0 l1_0.length c1_0) := (blk_cell BK225.out 0).trans rfl
      have hcz12_1 : w5.cell? ⟨gb225, 1, none⟩ = some (.slice A1_1 l1_1.length c1_1) := (blk_cell BK225.out 1).trans rfl
      have hfz12_0 := blk_frozen BK225.out 0
      have hfz12_1 := blk_frozen BK225.out 1
      go_wp2
      repeat (go_quiet (fail); try go_wp2)
      go_meet
      case rel => exact ⟨_, (true), (by first | rfl | (simp; done) | (simp [*]; done)), H', ⟨by first | omega | exact Nat.le_refl _⟩, ⟨by (with_reducible repeat (first | refine blk_drewN ?_ _ | refine blk_drew ?_ | refine blk_alloc ?_ _)); exact BK224.out⟩, ⟨by (with_reducible repeat (first | refine blk_drewN ?_ _ | refine blk_drew ?_ | refine blk_alloc ?_ _)); exact BK225.out⟩, ⟨by repeat (first | (with_reducible first | exact HB.out | apply below_alloc | apply pw_below_drewN | apply below_drew1 | refine below_set ?_ GE224.out | refine below_set ?_ GE225.out) | exact HB.out)⟩⟩
  case rest =>
    clear HC3
    try clear c1
    try clear c2
    try clear p2
    try clear c6
    try clear c6b0
    try clear c6b1
    try clear c6b2
    try clear c7
    try clear c10
    try clear hcz11_0
    try clear hcz11_1
    try clear hcz12_0
    try clear hcz12_1
    try clear hcz8_0
    try clear hcz8_1
    try clear hcz9_0
    try clear hcz9_1
    try clear hfz11_0
    try clear hfz11_1
    try clear hfz12_0
    try clear hfz12_1
    try clear hfz8_0
    try clear hfz8_1
    try clear hfz9_0
    try clear hfz9_1
    obtain ⟨kq, x23_2, rfl, HA, HJ2, BK224, BK225, HB⟩ := hcut
    cases kq with
    | zero => exact absurd HA.out (by simp [foundryref12_Same.j0])
    | succ kj2 =>
      have H := HA.out
      clear HA
      simp only [foundryref12_Same.j0] at H
      by_cases c13 : x23_2 = true
      · subst c13
        have H1 : (some false) = some r := by rw [if_pos rfl] at H; exact H
        clear H
        have H := H1
        clear H1
        obtain rfl := Option.some.inj H
        go_wp2
        repeat (go_quiet (fail); try go_wp2)
        go_ret
        exact ⟨by first | rfl | (simp [errW_none, errW_some] <;> rfl) | (simp [*, errW_none, errW_some] <;> rfl), by repeat (first | (with_reducible first | exact HB.out | apply below_alloc | apply pw_below_drewN | apply below_drew1 | refine below_set ?_ GE224.out | refine below_set ?_ GE225.out) | exact HB.out)⟩
      · replace c13 := Bool.eq_false_iff.mpr c13
        subst c13
        have H1 : (foundryref12_Same.l0 kj2 0 l0_0 l0_1 l1_0 l1_1) = some r := by rw [if_neg (show ¬ (false = true) by decide)] at H; exact H
        clear H
        have H := H1
        clear H1
        have H' := Aside0.mk H
        clear H
        go_wp2
        repeat (go_quiet (fail); try go_wp2)
        go_loopg [5] kj2 (fun kq v5 w' => ∃ (x5_2 : Int), v5 = .int .i64 x5_2 ∧ Aside0 (foundryref12_Same.l0 kq x5_2 l0_0 l0_1 l1_0 l1_1 = some r) ∧ Aside0 (kq ≤ kj2) ∧ Aside0 (w'.heap[gb224]? = some (.cells #[(.slice A0_0 l0_0.length c0_0), (.slice A0_1 l0_1.length c0_1)] 25 (0, 0))) ∧ Aside0 (w'.heap[gb225]? = some (.cells #[(.slice A1_0 l1_0.length c1_0), (.slice A1_1 l1_1.length c1_1)] 25 (0, 0))) ∧ Aside0 (Below w.heap.size w w'))
        case atStart => exact ⟨(0), (by first | rfl | (simp; done) | (simp [*]; done)), H', ⟨Nat.le_refl _⟩, ⟨by (with_reducible repeat (first | refine blk_drewN ?_ _ | refine blk_drew ?_ | refine blk_alloc ?_ _)); exact BK224.out⟩, ⟨by (with_reducible repeat (first | refine blk_drewN ?_ _ | refine blk_drew ?_ | refine blk_alloc ?_ _)); exact BK225.out⟩, ⟨by repeat (first | (with_reducible first | exact HB.out | apply below_alloc | apply pw_below_drewN | apply below_drew1 | refine below_set ?_ GE224.out | refine below_set ?_ GE225.out) | exact HB.out)⟩⟩
        case round =>
          clear H'
          try clear c1
          try clear c2
          try clear p2
          try clear c6
          try clear c6b0
          try clear c6b1
          try clear c6b2
          try clear c7
          try clear c10
          try clear c13
          try clear hcz11_0
          try clear hcz11_1
          try clear hcz12_0
          try clear hcz12_1
          try clear hcz8_0
          try clear hcz8_1
          try clear hcz9_0
          try clear hcz9_1
          try clear hfz11_0
          try clear hfz11_1
          try clear hfz12_0
          try clear hfz12_1
          try clear hfz8_0
          try clear hfz8_1
          try clear hfz9_0
          try clear hfz9_1
          try clear p2
          obtain ⟨x5_2, rfl, HA, HK2, BK224, BK225, HB⟩ := hrel
          cases gk with
          | zero => exact absurd HA.out (by simp [foundryref12_Same.l0])
          | succ k2 =>
            have H := HA.out
            clear HA
            simp only [foundryref12_Same.l0] at H
            by_cases c14 : x5_2 < (l0_0.length : Int)
            · rw [if_pos c14] at H
              have c14b0 : decide (x5_2 < (l0_0.length : Int)) = true := decide_eq_true c14
              clear c14
              by_cases c15 : 0 ≤ x5_2
              · rw [if_pos c15] at H
                have c15b0 : decide (0 ≤ x5_2) = true := decide_eq_true c15
                clear c15
                by_cases c16 : x5_2 < (l1_0.length : Int)
                · rw [if_pos c16] at H
                  have c16b0 : decide (x5_2 < (l1_0.length : Int)) = true := decide_eq_true c16
                  clear c16
                  by_cases c17 : ((rd_L3 l0_0 x5_2).length : Int) = ((rd_L3 l1_0 x5_2).length : Int)
                  · rw [if_pos c17] at H
                    have c17b0 : (((rd_L3 l0_0 x5_2).length : Int) == ((rd_L3 l1_0 x5_2).length : Int)) = true := beq_iff_eq.mpr c17
                    have c17b1 : (((rd_L3 l0_0 x5_2).length : Int) != ((rd_L3 l1_0 x5_2).length : Int)) = false := bne_eq_false_iff_eq.mpr c17
                    have c17b2 : ((rd_L3 l0_0 x5_2).length == (rd_L3 l1_0 x5_2).length) = true := by first | simpa using c17 | (simp at c17 ⊢; omega)
                    clear c17
                    have H' := Aside0.mk H
                    clear H
                    have hnb18 := NB224_225.out
                    have hnc18 := NB225_224.out
                    have hcz19_0 : wr.cell? ⟨gb224, 0, none⟩ = some (.slice A0_0 l0_0.length c0_0) := (blk_cell BK224.out 0).trans rfl
                    have hcz19_1 : wr.cell? ⟨gb224, 1, none⟩ = some (.slice A0_1 l0_1.length c0_1) := (blk_cell BK224.out 1).trans rfl
                    have hfz19_0 := blk_frozen BK224.out 0
                    have hfz19_1 := blk_frozen BK224.out 1
                    have p226 : 0 ≤ (x5_2 : Int) := of_decide_eq_true (by first | (with_reducible assumption) | assumption)
                    have q226 : x5_2 < (l0_0.length : Int) := of_decide_eq_true (by first | (with_reducible assumption) | assumption)
                    obtain ⟨ad226, A226_0, c226_0, e226, hx226_0, hl226_0, hi226_0⟩ := at_L3 HR0_0.out x5_2 p226 q226
                    cases e226
                    replace hx226_0 := (HB.out.cell (World.block_lt_of_cell? w _ hx226_0)).trans hx226_0
                    have HR226_0 := Aside0.mk hi226_0
                    have HC226_0 := Aside0.mk hl226_0
                    clear hi226_0 hl226_0
                    replace p226 := eq_true p226
                    replace q226 := eq_true q226
                    have hcz20_0 : wr.cell? ⟨gb225, 0, none⟩ = some (.slice A1_0 l1_0.length c1_0) := (blk_cell BK225.out 0).trans rfl
                    have hcz20_1 : wr.cell? ⟨gb225, 1, none⟩ = some (.slice A1_1 l1_1.length c1_1) := (blk_cell BK225.out 1).trans rfl
                    have hfz20_0 := blk_frozen BK225.out 0
                    have hfz20_1 := blk_frozen BK225.out 1
                    have p227 : 0 ≤ (x5_2 : Int) := of_decide_eq_true (by first | (with_reducible assumption) | assumption)
                    have q227 : x5_2 < (l1_0.length : Int) := of_decide_eq_true (by first | (with_reducible assumption) | assumption)
                    obtain ⟨ad227, A227_0, c227_0, e227, hx227_0, hl227_0, hi227_0⟩ := at_L3 HR1_0.out x5_2 p227 q227
                    cases e227
                    replace hx227_0 := (HB.out.cell (World.block_lt_of_cell? w _ hx227_0)).trans hx227_0
                    have HR227_0 := Aside0.mk hi227_0
                    have HC227_0 := Aside0.mk hl227_0
                    clear hi227_0 hl227_0
                    replace p227 := eq_true p227
                    replace q227 := eq_true q227
                    go_wp2
                    repeat (go_quiet (fail); try go_wp2)
                    go_loopg [6] k2 (fun kq v6 w' => ∃ (x6_3 : Int), v6 = .int .i64 x6_3 ∧ Aside0 (foundryref12_Same.l1 kq x5_2 x6_3 l0_0 l0_1 l1_0 l1_1 = some r) ∧ Aside0 (kq ≤ k2) ∧ Aside0 (w'.heap[gb224]? = some (.cells #[(.slice (some ad226) l0_0.length c0_0), (.slice A0_1 l0_1.length c0_1)] 25 (0, 0))) ∧ Aside0 (w'.heap[gb225]? = some (.cells #[(.slice (some ad227) l1_0.length c1_0), (.slice A1_1 l1_1.length c1_1)] 25 (0, 0))) ∧ Aside0 (Below w.heap.size w w'))
                    case atStart => exact ⟨(0), (by first | rfl | (simp; done) | (simp [*]; done)), H', ⟨Nat.le_refl _⟩, ⟨by (with_reducible repeat (first | refine blk_drewN ?_ _ | refine blk_drew ?_ | refine blk_alloc ?_ _)); exact BK224.out⟩, ⟨by (with_reducible repeat (first | refine blk_drewN ?_ _ | refine blk_drew ?_ | refine blk_alloc ?_ _)); exact BK225.out⟩, ⟨by repeat (first | (with_reducible first | exact HB.out | apply below_alloc | apply pw_below_drewN | apply below_drew1 | refine below_set ?_ GE224.out | refine below_set ?_ GE225.out) | exact HB.out)⟩⟩
                    case round =>
                      clear H'
                      try clear c1
                      try clear c2
                      try clear p2
                      try clear q2
                      try clear hx2
                      try clear c6
                      try clear c6b0
                      try clear c6b1
                      try clear c6b2
                      try clear c7
                      try clear c10
                      try clear c13
                      try clear c14
                      try clear c14b0
                      try clear c15
                      try clear c15b0
                      try clear c16
                      try clear c16b0
                      try clear c17
                      try clear c17b0
                      try clear c17b1
                      try clear c17b2
                      try clear c18
                      try clear hcz11_0
                      try clear hcz11_1
                      try clear hcz12_0
                      try clear hcz12_1
                      try clear hcz19_0
                      try clear hcz19_1
                      try clear hcz20_0
                      try clear hcz20_1
                      try clear hcz8_0
                      try clear hcz8_1
                      try clear hcz9_0
                      try clear hcz9_1
                      try clear hfz11_0
                      try clear hfz11_1
                      try clear hfz12_0
                      try clear hfz12_1
                      try clear hfz19_0
                      try clear hfz19_1
                      try clear hfz20_0
                      try clear hfz20_1
                      try clear hfz8_0
                      try clear hfz8_1
                      try clear hfz9_0
                      try clear hfz9_1
                      try clear hx226_0
                      try clear hx227_0
                      try clear p2
                      try clear p226
                      try clear p227
                      try clear q226
                      try clear q227
                      obtain ⟨x6_3, rfl, HA, HK3, BK224, BK225, HB⟩ := hrel
                      cases gk with
                      | zero => exact absurd HA.out (by simp [foundryref12_Same.l1])
                      | succ k3 =>
                        have H := HA.out
                        clear HA
                        simp only [foundryref12_Same.l1] at H
                        by_cases c21 : 0 ≤ x5_2
                        · rw [if_pos c21] at H
                          have c21b0 : decide (0 ≤ x5_2) = true := decide_eq_true c21
                          clear c21
                          by_cases c22 : x5_2 < (l0_0.length : Int)
                          · rw [if_pos c22] at H
                            have c22b0 : decide (x5_2 < (l0_0.length : Int)) = true := decide_eq_true c22
                            clear c22
                            by_cases c23 : x6_3 < ((rd_L3 l0_0 x5_2).length : Int)
                            · rw [if_pos c23] at H
                              have c23b0 : decide (x6_3 < ((rd_L3 l0_0 x5_2).length : Int)) = true := decide_eq_true c23
                              clear c23
                              by_cases c24 : 0 ≤ x6_3
                              · rw [if_pos c24] at H
                                have c24b0 : decide (0 ≤ x6_3) = true := decide_eq_true c24
                                clear c24
                                by_cases c25 : x5_2 < (l1_0.length : Int)
                                · rw [if_pos c25] at H
                                  have c25b0 : decide (x5_2 < (l1_0.length : Int)) = true := decide_eq_true c25
                                  clear c25
                                  by_cases c26 : x6_3 < ((rd_L3 l1_0 x5_2).length : Int)
                                  · rw [if_pos c26] at H
                                    have c26b0 : decide (x6_3 < ((rd_L3 l1_0 x5_2).length : Int)) = true := decide_eq_true c26
                                    clear c26
                                    by_cases c27 : (!(((rd_T40 (rd_L3 l0_0 x5_2) x6_3).f0) == ((rd_T40 (rd_L3 l1_0 x5_2) x6_3).f0)) || (!(((rd_T40 (rd_L3 l0_0 x5_2) x6_3).f1) == ((rd_T40 (rd_L3 l1_0 x5_2) x6_3).f1)) || (!(((rd_T40 (rd_L3 l0_0 x5_2) x6_3).f2) == ((rd_T40 (rd_L3 l1_0 x5_2) x6_3).f2))))) = true
                                    · rw [if_pos c27] at H
                                      have c27b0 : (!(((rd_T40 (rd_L3 l0_0 x5_2) x6_3).f0) == ((rd_T40 (rd_L3 l1_0 x5_2) x6_3).f0)) || (!(((rd_T40 (rd_L3 l0_0 x5_2) x6_3).f1) == ((rd_T40 (rd_L3 l1_0 x5_2) x6_3).f1)) || (!(((rd_T40 (rd_L3 l0_0 x5_2) x6_3).f2) == ((rd_T40 (rd_L3 l1_0 x5_2) x6_3).f2))))) = true := c27
                                      clear c27
                                      obtain rfl := Option.some.inj H
                                      have hnb28 := NB224_225.out
                                      have hnc28 := NB225_224.out
                                      have hcz29_0 : wr.cell? ⟨gb224, 0, none⟩ = some (.slice (some ad226) l0_0.length c0_0) := (blk_cell BK224.out 0).trans rfl
                                      have hcz29_1 : wr.cell? ⟨gb224, 1, none⟩ = some (.slice A0_1 l0_1.length c0_1) := (blk_cell BK224.out 1).trans rfl
                                      have hfz29_0 := blk_frozen BK224.out 0
                                      have hfz29_1 := blk_frozen BK224.out 1
                                      have p228 : 0 ≤ (x5_2 : Int) := of_decide_eq_true (by first | (with_reducible assumption) | assumption)
                                      have q228 : x5_2 < (l0_0.length : Int) := of_decide_eq_true (by first | (with_reducible assumption) | assumption)
                                      obtain ⟨ad228, A228_0, c228_0, e228, hx228_0, hl228_0, hi228_0⟩ := at_L3 HR0_0.out x5_2 p228 q228
                                      obtain rfl : ad226 = ad228 := (by injection e228)
                                      replace hx228_0 := (HB.out.cell (World.block_lt_of_cell? w _ hx228_0)).trans hx228_0
                                      have HR228_0 := Aside0.mk hi228_0
                                      have HC228_0 := Aside0.mk hl228_0
                                      clear hi228_0 hl228_0
                                      replace p228 := eq_true p228
                                      replace q228 := eq_true q228
                                      have p229 : 0 ≤ (x5_2 : Int) := of_decide_eq_true (by first | (with_reducible assumption) | assumption)
                                      have q229 : x5_2 < (l0_0.length : Int) := of_decide_eq_true (by first | (with_reducible assumption) | assumption)
                                      obtain ⟨ad229, A229_0, c229_0, e229, hx229_0, hl229_0, hi229_0⟩ := at_L3 HR0_0.out x5_2 p229 q229
                                      obtain rfl : ad226 = ad229 := (by injection e229)
                                      replace hx229_0 := (HB.out.cell (World.block_lt_of_cell? w _ hx229_0)).trans hx229_0
                                      have HR229_0 := Aside0.mk hi229_0
                                      have HC229_0 := Aside0.mk hl229_0
                                      clear hi229_0 hl229_0
                                      replace p229 := eq_true p229
                                      replace q229 := eq_true q229
                                      have ea_ := Option.some.inj (hx228_0.symm.trans hx229_0)
                                      injection ea_ with ea_ en_ ec_
                                      subst ea_
                                      subst ec_
                                      clear en_
                                      have p230 : 0 ≤ (x6_3 : Int) := of_decide_eq_true (by first | (with_reducible assumption) | assumption)
                                      have q230 : x6_3 < ((rd_L3 l0_0 x5_2).length : Int) := of_decide_eq_true (by first | (with_reducible assumption) | assumption)
                                      obtain ⟨ad230, e230, hx230_0, hx230_1, hx230_2⟩ := at_T40 HR229_0.out x6_3 p230 q230
                                      cases e230
                                      replace hx230_0 := (HB.out.cell (World.block_lt_of_cell? w _ hx230_0)).trans hx230_0
                                      replace hx230_1 := (HB.out.cell (World.block_lt_of_cell? w _ hx230_1)).trans hx230_1
                                      replace hx230_2 := (HB.out.cell (World.block_lt_of_cell? w _ hx230_2)).trans hx230_2
                                      replace p230 := eq_true p230
                                      replace q230 := eq_true q230
                                      have hcz30_0 : wr.cell? ⟨gb225, 0, none⟩ = some (.slice (some ad227) l1_0.length c1_0) := (blk_cell BK225.out 0).trans rfl
                                      have hcz30_1 : wr.cell? ⟨gb225, 1, none⟩ = some (.slice A1_1 l1_1.length c1_1) := (blk_cell BK225.out 1).trans rfl
                                      have hfz30_0 := blk_frozen BK225.out 0
                                      have hfz30_1 := blk_frozen BK225.out 1
                                      have p231 : 0 ≤ (x5_2 : Int) := of_decide_eq_true (by first | (with_reducible assumption) | assumption)
                                      have q231 : x5_2 < (l1_0.length : Int) := of_decide_eq_true (by first | (with_reducible assumption) | assumption)
                                      obtain ⟨ad231, A231_0, c231_0, e231, hx231_0, hl231_0, hi231_0⟩ := at_L3 HR1_0.out x5_2 p231 q231
                                      obtain rfl : ad227 = ad231 := (by injection e231)
                                      replace hx231_0 := (HB.out.cell (World.block_lt_of_cell? w _ hx231_0)).trans hx231_0
                                      have HR231_0 := Aside0.mk hi231_0
                                      have HC231_0 := Aside0.mk hl231_0
                                      clear hi231_0 hl231_0
                                      replace p231 := eq_true p231
                                      replace q231 := eq_true q231
                                      have p232 : 0 ≤ (x6_3 : Int) := of_decide_eq_true (by first | (with_reducible assumption) | assumption)
                                      have q232 : x6_3 < ((rd_L3 l1_0 x5_2).length : Int) := of_decide_eq_true (by first | (with_reducible assumption) | assumption)
                                      obtain ⟨ad232, e232, hx232_0, hx232_1, hx232_2⟩ := at_T40 HR231_0.out x6_3 p232 q232
                                      cases e232
                                      replace hx232_0 := (HB.out.cell (World.block_lt_of_cell? w _ hx232_0)).trans hx232_0
                                      replace hx232_1 := (HB.out.cell (World.block_lt_of_cell? w _ hx232_1)).trans hx232_1
                                      replace hx232_2 := (HB.out.cell (World.block_lt_of_cell? w _ hx232_2)).trans hx232_2
                                      replace p232 := eq_true p232
                                      replace q232 := eq_true q232
                                      go_wp2
                                      repeat (go_quiet (fail); try go_wp2)
                                      go_ret
                                      exact ⟨by first | rfl | (simp [errW_none, errW_some] <;> rfl) | (simp [*, errW_none, errW_some] <;> rfl), by repeat (first | (with_reducible first | exact HB.out | apply below_alloc | apply pw_below_drewN | apply below_drew1 | refine below_set ?_ GE224.out | refine below_set ?_ GE225.out) | exact HB.out)⟩
                                    · rw [if_neg c27] at H
                                      have c27b0 : (!(((rd_T40 (rd_L3 l0_0 x5_2) x6_3).f0) == ((rd_T40 (rd_L3 l1_0 x5_2) x6_3).f0)) || (!(((rd_T40 (rd_L3 l0_0 x5_2) x6_3).f1) == ((rd_T40 (rd_L3 l1_0 x5_2) x6_3).f1)) || (!(((rd_T40 (rd_L3 l0_0 x5_2) x6_3).f2) == ((rd_T40 (rd_L3 l1_0 x5_2) x6_3).f2))))) = false := by simpa using c27
                                      clear c27
                                      have H' := Aside0.mk H
                                      clear H
                                      have hnb31 := NB224_225.out
                                      have hnc31 := NB225_224.out
                                      have hcz32_0 : wr.cell? ⟨gb224, 0, none⟩ = some (.slice (some ad226) l0_0.length c0_0) := (blk_cell BK224.out 0).trans rfl
                                      have hcz32_1 : wr.cell? ⟨gb224, 1, none⟩ = some (.slice A0_1 l0_1.length c0_1) := (blk_cell BK224.out 1).trans rfl
                                      have hfz32_0 := blk_frozen BK224.out 0
                                      have hfz32_1 := blk_frozen BK224.out 1
                                      have p228 : 0 ≤ (x5_2 : Int) := of_decide_eq_true (by first | (with_reducible assumption) | assumption)
                                      have q228 : x5_2 < (l0_0.length : Int) := of_decide_eq_true (by first | (with_reducible assumption) | assumption)
                                      obtain ⟨ad228, A228_0, c228_0, e228, hx228_0, hl228_0, hi228_0⟩ := at_L3 HR0_0.out x5_2 p228 q228
                                      obtain rfl : ad226 = ad228 := (by injection e228)
                                      replace hx228_0 := (HB.out.cell (World.block_lt_of_cell? w _ hx228_0)).trans hx228_0
                                      have HR228_0 := Aside0.mk hi228_0
                                      have HC228_0 := Aside0.mk hl228_0
                                      clear hi228_0 hl228_0
                                      replace p228 := eq_true p228
                                      replace q228 := eq_true q228
                                      have p229 : 0 ≤ (x5_2 : Int) := of_decide_eq_true (by first | (with_reducible assumption) | assumption)
                                      have q229 : x5_2 < (l0_0.length : Int) := of_decide_eq_true (by first | (with_reducible assumption) | assumption)
                                      obtain ⟨ad229, A229_0, c229_0, e229, hx229_0, hl229_0, hi229_0⟩ := at_L3 HR0_0.out x5_2 p229 q229
                                      obtain rfl : ad226 = ad229 := (by injection e229)
                                      replace hx229_0 := (HB.out.cell (World.block_lt_of_cell? w _ hx229_0)).trans hx229_0
                                      have HR229_0 := Aside0.mk hi229_0
                                      have HC229_0 := Aside0.mk hl229_0
                                      clear hi229_0 hl229_0
                                      replace p229 := eq_true p229
                                      replace q229 := eq_true q229
                                      have ea_ := Option.some.inj (hx228_0.symm.trans hx229_0)
                                      injection ea_ with ea_ en_ ec_
                                      subst ea_
                                      subst ec_
                                      clear en_
                                      have p230 : 0 ≤ (x6_3 : Int) := of_decide_eq_true (by first | (with_reducible assumption) | assumption)
                                      have q230 : x6_3 < ((rd_L3 l0_0 x5_2).length : Int) := of_decide_eq_true (by first | (with_reducible assumption) | assumption)
                                      obtain ⟨ad230, e230, hx230_0, hx230_1, hx230_2⟩ := at_T40 HR229_0.out x6_3 p230 q230
                                      cases e230
                                      replace hx230_0 := (HB.out.cell (World.block_lt_of_cell? w _ hx230_0)).trans hx230_0
                                      replace hx230_1 := (HB.out.cell (World.block_lt_of_cell? w _ hx230_1)).trans hx230_1
                                      replace hx230_2 := (HB.out.cell (World.block_lt_of_cell? w _ hx230_2)).trans hx230_2
                                      replace p230 := eq_true p230
                                      replace q230 := eq_true q230
                                      have hcz33_0 : wr.cell? ⟨gb225, 0, none⟩ = some (.slice (some ad227) l1_0.length c1_0) := (blk_cell BK225.out 0).trans rfl
                                      have hcz33_1 : wr.cell? ⟨gb225, 1, none⟩ = some (.slice A1_1 l1_1.length c1_1) := (blk_cell BK225.out 1).trans rfl
                                      have hfz33_0 := blk_frozen BK225.out 0
                                      have hfz33_1 := blk_frozen BK225.out 1
                                      have p231 : 0 ≤ (x5_2 : Int) := of_decide_eq_true (by first | (with_reducible assumption) | assumption)
                                      have q231 : x5_2 < (l1_0.length : Int) := of_decide_eq_true (by first | (with_reducible assumption) | assumption)
                                      obtain ⟨ad231, A231_0, c231_0, e231, hx231_0, hl231_0, hi231_0⟩ := at_L3 HR1_0.out x5_2 p231 q231
                                      obtain rfl : ad227 = ad231 := (by injection e231)
                                      replace hx231_0 := (HB.out.cell (World.block_lt_of_cell? w _ hx231_0)).trans hx231_0
                                      have HR231_0 := Aside0.mk hi231_0
                                      have HC231_0 := Aside0.mk hl231_0
                                      clear hi231_0 hl231_0
                                      replace p231 := eq_true p231
                                      replace q231 := eq_true q231
                                      have p232 : 0 ≤ (x6_3 : Int) := of_decide_eq_true (by first | (with_reducible assumption) | assumption)
                                      have q232 : x6_3 < ((rd_L3 l1_0 x5_2).length : Int) := of_decide_eq_true (by first | (with_reducible assumption) | assumption)
                                      obtain ⟨ad232, e232, hx232_0, hx232_1, hx232_2⟩ := at_T40 HR231_0.out x6_3 p232 q232
                                      cases e232
                                      replace hx232_0 := (HB.out.cell (World.block_lt_of_cell? w _ hx232_0)).trans hx232_0
                                      replace hx232_1 := (HB.out.cell (World.block_lt_of_cell? w _ hx232_1)).trans hx232_1
                                      replace hx232_2 := (HB.out.cell (World.block_lt_of_cell? w _ hx232_2)).trans hx232_2
                                      replace p232 := eq_true p232
                                      replace q232 := eq_true q232
                                      go_wp2
                                      repeat (go_quiet (fail); try go_wp2)
                                      go_roundg k3
                                      case measure => have := HJ2.out; have := HK2.out; have := HK3.out; omega
                                      case rel => exact ⟨(wrap64 (x6_3 + 1)), (by first | rfl | (simp; done) | (simp [*]; done)), H', ⟨by have := HJ2.out; have := HK2.out; have := HK3.out; omega⟩, ⟨by (with_reducible repeat (first | refine blk_drewN ?_ _ | refine blk_drew ?_ | refine blk_alloc ?_ _)); exact BK224.out⟩, ⟨by (with_reducible repeat (first | refine blk_drewN ?_ _ | refine blk_drew ?_ | refine blk_alloc ?_ _)); exact BK225.out⟩, ⟨by repeat (first | (with_reducible first | exact HB.out | apply below_alloc | apply pw_below_drewN | apply below_drew1 | refine below_set ?_ GE224.out | refine below_set ?_ GE225.out) | exact HB.out)⟩⟩
                                  · rw [if_neg c26] at H
                                    exact absurd H (by simp)
                                · rw [if_neg c25] at H
                                  exact absurd H (by simp)
                              · rw [if_neg c24] at H
                                exact absurd H (by simp)
                            · rw [if_neg c23] at H
                              have c23b0 : decide (x6_3 < ((rd_L3 l0_0 x5_2).length : Int)) = false := decide_eq_false c23
                              clear c23
                              have H' := Aside0.mk H
                              clear H
                              have hnb34 := NB224_225.out
                              have hnc34 := NB225_224.out
                              have hcz35_0 : wr.cell? ⟨gb224, 0, none⟩ = some (.slice (some ad226) l0_0.length c0_0) := (blk_cell BK224.out 0).trans rfl
                              have hcz35_1 : wr.cell? ⟨gb224, 1, none⟩ = some (.slice A0_1 l0_1.length c0_1) := (blk_cell BK224.out 1).trans rfl
                              have hfz35_0 := blk_frozen BK224.out 0
                              have hfz35_1 := blk_frozen BK224.out 1
                              have p228 : 0 ≤ (x5_2 : Int) := of_decide_eq_true (by first | (with_reducible assumption) | assumption)
                              have q228 : x5_2 < (l0_0.length : Int) := of_decide_eq_true (by first | (with_reducible assumption) | assumption)
                              obtain ⟨ad228, A228_0, c228_0, e228, hx228_0, hl228_0, hi228_0⟩ := at_L3 HR0_0.out x5_2 p228 q228
                              obtain rfl : ad226 = ad228 := (by injection e228)
                              replace hx228_0 := (HB.out.cell (World.block_lt_of_cell? w _ hx228_0)).trans hx228_0
                              have HR228_0 := Aside0.mk hi228_0
                              have HC228_0 := Aside0.mk hl228_0
                              clear hi228_0 hl228_0
                              replace p228 := eq_true p228
                              replace q228 := eq_true q228
                              go_wp2
                              repeat (go_quiet (fail); try go_wp2)
                              go_roundg k3
                              case measure => have := HJ2.out; have := HK2.out; have := HK3.out; omega
                              case rel => exact ⟨(wrap64 (x5_2 + 1)), (by first | rfl | (simp; done) | (simp [*]; done)), H', ⟨by have := HJ2.out; have := HK2.out; have := HK3.out; omega⟩, ⟨by (with_reducible repeat (first | refine blk_drewN ?_ _ | refine blk_drew ?_ | refine blk_alloc ?_ _)); exact BK224.out⟩, ⟨by (with_reducible repeat (first | refine blk_drewN ?_ _ | refine blk_drew ?_ | refine blk_alloc ?_ _)); exact BK225.out⟩, ⟨by repeat (first | (with_reducible first | exact HB.out | apply below_alloc | apply pw_below_drewN | apply below_drew1 | refine below_set ?_ GE224.out | refine below_set ?_ GE225.out) | exact HB.out)⟩⟩
                          · rw [if_neg c22] at H
                            exact absurd H (by simp)
                        · rw [if_neg c21] at H
                          exact absurd H (by simp)
                  · rw [if_neg c17] at H
                    have c17b0 : (((rd_L3 l0_0 x5_2).length : Int) == ((rd_L3 l1_0 x5_2).length : Int)) = false := beq_eq_false_iff_ne.mpr c17
                    have c17b1 : (((rd_L3 l0_0 x5_2).length : Int) != ((rd_L3 l1_0 x5_2).length : Int)) = true := bne_iff_ne.mpr c17
                    have c17b2 : ((rd_L3 l0_0 x5_2).length == (rd_L3 l1_0 x5_2).length) = false := by first | simpa using c17 | (simp at c17 ⊢; omega)
                    obtain rfl := Option.some.inj H
                    have hnb36 := NB224_225.out
                    have hnc36 := NB225_224.out
                    have hcz37_0 : wr.cell? ⟨gb224, 0, none⟩ = some (.slice A0_0 l0_0.length c0_0) := (blk_cell BK224.out 0).trans rfl
                    have hcz37_1 : wr.cell? ⟨gb224, 1, none⟩ = some (.slice A0_1 l0_1.length c0_1) := (blk_cell BK224.out 1).trans rfl
                    have hfz37_0 := blk_frozen BK224.out 0
                    have hfz37_1 := blk_frozen BK224.out 1
                    have p226 : 0 ≤ (x5_2 : Int) := of_decide_eq_true (by first | (with_reducible assumption) | assumption)
                    have q226 : x5_2 < (l0_0.length : Int) := of_decide_eq_true (by first | (with_reducible assumption) | assumption)
                    obtain ⟨ad226, A226_0, c226_0, e226, hx226_0, hl226_0, hi226_0⟩ := at_L3 HR0_0.out x5_2 p226 q226
                    cases e226
                    replace hx226_0 := (HB.out.cell (World.block_lt_of_cell? w _ hx226_0)).trans hx226_0
                    have HR226_0 := Aside0.mk hi226_0
                    have HC226_0 := Aside0.mk hl226_0
                    clear hi226_0 hl226_0
                    replace p226 := eq_true p226
                    replace q226 := eq_true q226
                    have hcz38_0 : wr.cell? ⟨gb225, 0, none⟩ = some (.slice A1_0 l1_0.length c1_0) := (blk_cell BK225.out 0).trans rfl
                    have hcz38_1 : wr.cell? ⟨gb225, 1, none⟩ = some (.slice A1_1 l1_1.length c1_1) := (blk_cell BK225.out 1).trans rfl
                    have hfz38_0 := blk_frozen BK225.out 0
                    have hfz38_1 := blk_frozen BK225.out 1
                    have p227 : 0 ≤ (x5_2 : Int) := of_decide_eq_true (by first | (with_reducible assumption) | assumption)
                    have q227 : x5_2 < (l1_0.length : Int) := of_decide_eq_true (by first | (with_reducible assumption) | assumption)
                    obtain ⟨ad227, A227_0, c227_0, e227, hx227_0, hl227_0, hi227_0⟩ := at_L3 HR1_0.out x5_2 p227 q227
                    cases e227
                    replace hx227_0 := (HB.out.cell (World.block_lt_of_cell? w _ hx227_0)).trans hx227_0
                    have HR227_0 := Aside0.mk hi227_0
                    have HC227_0 := Aside0.mk hl227_0
                    clear hi227_0 hl227_0
                    replace p227 := eq_true p227
                    replace q227 := eq_true q227
                    go_wp2
                    repeat (go_quiet (fail); try go_wp2)
                    go_ret
                    exact ⟨by first | rfl | (simp [errW_none, errW_some] <;> rfl) | (simp [*, errW_none, errW_some] <;> rfl), by repeat (first | (with_reducible first | exact HB.out | apply below_alloc | apply pw_below_drewN | apply below_drew1 | refine below_set ?_ GE224.out | refine below_set ?_ GE225.out) | exact HB.out)⟩
                · rw [if_neg c16] at H
                  exact absurd H (by simp)
              · rw [if_neg c15] at H
                exact absurd H (by simp)
            · rw [if_neg c14] at H
              have c14b0 : decide (x5_2 < (l0_0.length : Int)) = false := decide_eq_false c14
              clear c14
              have H' := Aside0.mk H
              clear H
              have hnb39 := NB224_225.out
              have hnc39 := NB225_224.out
              have hcz40_0 : wr.cell? ⟨gb224, 0, none⟩ = some (.slice A0_0 l0_0.length c0_0) := (blk_cell BK224.out 0).trans rfl
              have hcz40_1 : wr.cell? ⟨gb224, 1, none⟩ = some (.slice A0_1 l0_1.length c0_1) := (blk_cell BK224.out 1).trans rfl
              have hfz40_0 := blk_frozen BK224.out 0
              have hfz40_1 := blk_frozen BK224.out 1
              go_wp2
              repeat (go_quiet (fail); try go_wp2)
              go_loopg [7] k2 (fun kq v7 w' => ∃ (x7_3 : Int), v7 = .int .i64 x7_3 ∧ Aside0 (foundryref12_Same.l2 kq x7_3 l0_0 l0_1 l1_0 l1_1 = some r) ∧ Aside0 (kq ≤ k2) ∧ Aside0 (w'.heap[gb224]? = some (.cells #[(.slice A0_0 l0_0.length c0_0), (.slice A0_1 l0_1.length c0_1)] 25 (0, 0))) ∧ Aside0 (w'.heap[gb225]? = some (.cells #[(.slice A1_0 l1_0.length c1_0), (.slice A1_1 l1_1.length c1_1)] 25 (0, 0))) ∧ Aside0 (Below w.heap.size w w'))
              case atStart => exact ⟨(0), (by first | rfl | (simp; done) | (simp [*]; done)), H', ⟨Nat.le_refl _⟩, ⟨by (with_reducible repeat (first | refine blk_drewN ?_ _ | refine blk_drew ?_ | refine blk_alloc ?_ _)); exact BK224.out⟩, ⟨by (with_reducible repeat (first | refine blk_drewN ?_ _ | refine blk_drew ?_ | refine blk_alloc ?_ _)); exact BK225.out⟩, ⟨by repeat (first | (with_reducible first | exact HB.out | apply below_alloc | apply pw_below_drewN | apply below_drew1 | refine below_set ?_ GE224.out | refine below_set ?_ GE225.out) | exact HB.out)⟩⟩
              case round =>
                clear H'
                try clear c1
                try clear c2
                try clear p2
                try clear q2
                try clear hx2
                try clear c3
                try clear c6
                try clear c6b0
                try clear c6b1
                try clear c6b2
                try clear p6
                try clear c7
                try clear c10
                try clear c13
                try clear c14
                try clear c14b0
                try clear c15
                try clear c15b0
                try clear c16
                try clear c16b0
                try clear c17
                try clear c17b0
                try clear c17b1
                try clear c17b2
                try clear c18
                try clear c21
                try clear c21b0
                try clear c22
                try clear c22b0
                try clear p22
                try clear q22
                try clear hx22
                try clear c23
                try clear c23b0
                try clear p23
                try clear q23
                try clear hx23
                try clear c24
                try clear c24b0
                try clear c25
                try clear c25b0
                try clear c26
                try clear c26b0
                try clear c27
                try clear c27b0
                try clear c28
                try clear c31
                try clear c34
                try clear c36
                try clear c39
                try clear hcz11_0
                try clear hcz11_1
                try clear hcz12_0
                try clear hcz12_1
                try clear hcz19_0
                try clear hcz19_1
                try clear hcz20_0
                try clear hcz20_1
                try clear hcz29_0
                try clear hcz29_1
                try clear hcz30_0
                try clear hcz30_1
                try clear hcz32_0
                try clear hcz32_1
                try clear hcz33_0
                try clear hcz33_1
                try clear hcz35_0
                try clear hcz35_1
                try clear hcz37_0
                try clear hcz37_1
                try clear hcz38_0
                try clear hcz38_1
                try clear hcz40_0
                try clear hcz40_1
                try clear hcz8_0
                try clear hcz8_1
                try clear hcz9_0
                try clear hcz9_1
                try clear hfz11_0
                try clear hfz11_1
                try clear hfz12_0
                try clear hfz12_1
                try clear hfz19_0
                try clear hfz19_1
                try clear hfz20_0
                try clear hfz20_1
                try clear hfz29_0
                try clear hfz29_1
                try clear hfz30_0
                try clear hfz30_1
                try clear hfz32_0
                try clear hfz32_1
                try clear hfz33_0
                try clear hfz33_1
                try clear hfz35_0
                try clear hfz35_1
                try clear hfz37_0
                try clear hfz37_1
                try clear hfz38_0
                try clear hfz38_1
                try clear hfz40_0
                try clear hfz40_1
                try clear hfz8_0
                try clear hfz8_1
                try clear hfz9_0
                try clear hfz9_1
                try clear hx226_0
                try clear hx227_0
                try clear hx228_0
                try clear hx229_0
                try clear hx230_0
                try clear hx230_1
                try clear hx230_2
                try clear hx231_0
                try clear hx232_0
                try clear hx232_1
                try clear hx232_2
                try clear p2
                try clear p226
                try clear p227
                try clear p228
                try clear p229
                try clear p230
                try clear p231
                try clear p232
                try clear q2
                try clear q226
                try clear q227
                try clear q228
                try clear q229
                try clear q230
                try clear q231
                try clear q232
                obtain ⟨x7_3, rfl, HA, HK3, BK224, BK225, HB⟩ := hrel
                cases gk with
                | zero => exact absurd HA.out (by simp [foundryref12_Same.l2])
                | succ k3 =>
                  have H := HA.out
                  clear HA
                  simp only [foundryref12_Same.l2] at H
                  by_cases c41 : x7_3 < (l0_1.length : Int)
                  · rw [if_pos c41] at H
                    have c41b0 : decide (x7_3 < (l0_1.length : Int)) = true := decide_eq_true c41
                    clear c41
                    by_cases c42 : 0 ≤ x7_3
                    · rw [if_pos c42] at H
                      have c42b0 : decide (0 ≤ x7_3) = true := decide_eq_true c42
                      clear c42
                      by_cases c43 : x7_3 < (l1_1.length : Int)
                      · rw [if_pos c43] at H
                        have c43b0 : decide (x7_3 < (l1_1.length : Int)) = true := decide_eq_true c43
                        clear c43
                        by_cases c44 : (!(((rd_T82 l0_1 x7_3).f0) == ((rd_T82 l1_1 x7_3).f0)) || (!(((rd_T82 l0_1 x7_3).f1) == ((rd_T82 l1_1 x7_3).f1)) || (!(((rd_T82 l0_1 x7_3).f2) == ((rd_T82 l1_1 x7_3).f2))))) = true
                        · rw [if_pos c44] at H
                          have c44b0 : (!(((rd_T82 l0_1 x7_3).f0) == ((rd_T82 l1_1 x7_3).f0)) || (!(((rd_T82 l0_1 x7_3).f1) == ((rd_T82 l1_1 x7_3).f1)) || (!(((rd_T82 l0_1 x7_3).f2) == ((rd_T82 l1_1 x7_3).f2))))) = true := c44
                          clear c44
                          obtain rfl := Option.some.inj H
                          have hnb45 := NB224_225.out
                          have hnc45 := NB225_224.out
                          have hcz46_0 : wr.cell? ⟨gb224, 0, none⟩ = some (.slice A0_0 l0_0.length c0_0) := (blk_cell BK224.out 0).trans rfl
                          have hcz46_1 : wr.cell? ⟨gb224, 1, none⟩ = some (.slice A0_1 l0_1.length c0_1) := (blk_cell BK224.out 1).trans rfl
                          have hfz46_0 := blk_frozen BK224.out 0
                          have hfz46_1 := blk_frozen BK224.out 1
                          have p233 : 0 ≤ (x7_3 : Int) := of_decide_eq_true (by first | (with_reducible assumption) | assumption)
                          have q233 : x7_3 < (l0_1.length : Int) := of_decide_eq_true (by first | (with_reducible assumption) | assumption)
                          obtain ⟨ad233, e233, hx233_0, hx233_1, hx233_2⟩ := at_T82 HR0_1.out x7_3 p233 q233
                          cases e233
                          replace hx233_0 := (HB.out.cell (World.block_lt_of_cell? w _ hx233_0)).trans hx233_0
                          replace hx233_1 := (HB.out.cell (World.block_lt_of_cell? w _ hx233_1)).trans hx233_1
                          replace hx233_2 := (HB.out.cell (World.block_lt_of_cell? w _ hx233_2)).trans hx233_2
                          replace p233 := eq_true p233
                          replace q233 := eq_true q233
                          have hcz47_0 : wr.cell? ⟨gb225, 0, none⟩ = some (.slice A1_0 l1_0.length c1_0) := (blk_cell BK225.out 0).trans rfl
                          have hcz47_1 : wr.cell? ⟨gb225, 1, none⟩ = some (.slice A1_1 l1_1.length c1_1) := (blk_cell BK225.out 1).trans rfl
                          have hfz47_0 := blk_frozen BK225.out 0
                          have hfz47_1 := blk_frozen BK225.out 1
                          have p234 : 0 ≤ (x7_3 : Int) := of_decide_eq_true (by first | (with_reducible assumption) | assumption)
                          have q234 : x7_3 < (l1_1.length : Int) := of_decide_eq_true (by first | (with_reducible assumption) | assumption)
                          obtain ⟨ad234, e234, hx234_0, hx234_1, hx234_2⟩ := at_T82 HR1_1.out x7_3 p234 q234
                          cases e234
                          replace hx234_0 := (HB.out.cell (World.block_lt_of_cell? w _ hx234_0)).trans hx234_0
                          replace hx234_1 := (HB.out.cell (World.block_lt_of_cell? w _ hx234_1)).trans hx234_1
                          replace hx234_2 := (HB.out.cell (World.block_lt_of_cell? w _ hx234_2)).trans hx234_2
                          replace p234 := eq_true p234
                          replace q234 := eq_true q234
                          go_wp2
                          repeat (go_quiet (fail); try go_wp2)
                          go_ret
                          exact ⟨by first | rfl | (simp [errW_none, errW_some] <;> rfl) | (simp [*, errW_none, errW_some] <;> rfl), by repeat (first | (with_reducible first | exact HB.out | apply below_alloc | apply pw_below_drewN | apply below_drew1 | refine below_set ?_ GE224.out | refine below_set ?_ GE225.out) | exact HB.out)⟩
                        · rw [if_neg c44] at H
                          have c44b0 : (!(((rd_T82 l0_1 x7_3).f0) == ((rd_T82 l1_1 x7_3).f0)) || (!(((rd_T82 l0_1 x7_3).f1) == ((rd_T82 l1_1 x7_3).f1)) || (!(((rd_T82 l0_1 x7_3).f2) == ((rd_T82 l1_1 x7_3).f2))))) = false := by simpa using c44
                          clear c44
                          have H' := Aside0.mk H
                          clear H
                          have hnb48 := NB224_225.out
                          have hnc48 := NB225_224.out
                          have hcz49_0 : wr.cell? ⟨gb224, 0, none⟩ = some (.slice A0_0 l0_0.length c0_0) := (blk_cell BK224.out 0).trans rfl
                          have hcz49_1 : wr.cell? ⟨gb224, 1, none⟩ = some (.slice A0_1 l0_1.length c0_1) := (blk_cell BK224.out 1).trans rfl
                          have hfz49_0 := blk_frozen BK224.out 0
                          have hfz49_1 := blk_frozen BK224.out 1
                          have p233 : 0 ≤ (x7_3 : Int) := of_decide_eq_true (by first | (with_reducible assumption) | assumption)
                          have q233 : x7_3 < (l0_1.length : Int) := of_decide_eq_true (by first | (with_reducible assumption) | assumption)
                          obtain ⟨ad233, e233, hx233_0, hx233_1, hx233_2⟩ := at_T82 HR0_1.out x7_3 p233 q233
                          cases e233
                          replace hx233_0 := (HB.out.cell (World.block_lt_of_cell? w _ hx233_0)).trans hx233_0
                          replace hx233_1 := (HB.out.cell (World.block_lt_of_cell? w _ hx233_1)).trans hx233_1
                          replace hx233_2 := (HB.out.cell (World.block_lt_of_cell? w _ hx233_2)).trans hx233_2
                          replace p233 := eq_true p233
                          replace q233 := eq_true q233
                          have hcz50_0 : wr.cell? ⟨gb225, 0, none⟩ = some (.slice A1_0 l1_0.length c1_0) := (blk_cell BK225.out 0).trans rfl
                          have hcz50_1 : wr.cell? ⟨gb225, 1, none⟩ = some (.slice A1_1 l1_1.length c1_1) := (blk_cell BK225.out 1).trans rfl
                          have hfz50_0 := blk_frozen BK225.out 0
                          have hfz50_1 := blk_frozen BK225.out 1
                          have p234 : 0 ≤ (x7_3 : Int) := of_decide_eq_true (by first | (with_reducible assumption) | assumption)
                          have q234 : x7_3 < (l1_1.length : Int) := of_decide_eq_true (by first | (with_reducible assumption) | assumption)
                          obtain ⟨ad234, e234, hx234_0, hx234_1, hx234_2⟩ := at_T82 HR1_1.out x7_3 p234 q234
                          cases e234
                          replace hx234_0 := (HB.out.cell (World.block_lt_of_cell? w _ hx234_0)).trans hx234_0
                          replace hx234_1 := (HB.out.cell (World.block_lt_of_cell? w _ hx234_1)).trans hx234_1
                          replace hx234_2 := (HB.out.cell (World.block_lt_of_cell? w _ hx234_2)).trans hx234_2
                          replace p234 := eq_true p234
                          replace q234 := eq_true q234
                          go_wp2
                          repeat (go_quiet (fail); try go_wp2)
                          go_roundg k3
                          case measure => have := HJ2.out; have := HK2.out; have := HK3.out; omega
                          case rel => exact ⟨(wrap64 (x7_3 + 1)), (by first | rfl | (simp; done) | (simp [*]; done)), H', ⟨by have := HJ2.out; have := HK2.out; have := HK3.out; omega⟩, ⟨by (with_reducible repeat (first | refine blk_drewN ?_ _ | refine blk_drew ?_ | refine blk_alloc ?_ _)); exact BK224.out⟩, ⟨by (with_reducible repeat (first | refine blk_drewN ?_ _ | refine blk_drew ?_ | refine blk_alloc ?_ _)); exact BK225.out⟩, ⟨by repeat (first | (with_reducible first | exact HB.out | apply below_alloc | apply pw_below_drewN | apply below_drew1 | refine below_set ?_ GE224.out | refine below_set ?_ GE225.out) | exact HB.out)⟩⟩
                      · rw [if_neg c43] at H
                        exact absurd H (by simp)
                    · rw [if_neg c42] at H
                      exact absurd H (by simp)
                  · rw [if_neg c41] at H
                    have c41b0 : decide (x7_3 < (l0_1.length : Int)) = false := decide_eq_false c41
                    clear c41
                    obtain rfl := Option.some.inj H
                    have hnb51 := NB224_225.out
                    have hnc51 := NB225_224.out
                    have hcz52_0 : wr.cell? ⟨gb224, 0, none⟩ = some (.slice A0_0 l0_0.length c0_0) := (blk_cell BK224.out 0).trans rfl
                    have hcz52_1 : wr.cell? ⟨gb224, 1, none⟩ = some (.slice A0_1 l0_1.length c0_1) := (blk_cell BK224.out 1).trans rfl
                    have hfz52_0 := blk_frozen BK224.out 0
                    have hfz52_1 := blk_frozen BK224.out 1
                    go_wp2
                    repeat (go_quiet (fail); try go_wp2)
                    go_ret
                    exact ⟨by first | rfl | (simp [errW_none, errW_some] <;> rfl) | (simp [*, errW_none, errW_some] <;> rfl), by repeat (first | (with_reducible first | exact HB.out | apply below_alloc | apply pw_below_drewN | apply below_drew1 | refine below_set ?_ GE224.out | refine below_set ?_ GE225.out) | exact HB.out)⟩

end Go.Proofs.Ytmppdgjnibamlab.POl
