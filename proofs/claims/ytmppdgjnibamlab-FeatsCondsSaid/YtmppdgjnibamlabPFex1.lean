/- Printed by this session's run of print.py (with contracts of its own taken as given): the functions that these laws reach, their contracts. No condition. -/
import Derived.Test.YtmppdgjnibamlabPFex0
namespace Go.Proofs.Ytmppdgjnibamlab.PFe
open Go.RowKit Go.Proofs.YtmppdgjnibamlabW.PrintWords Go.Proofs.YtmppdgjnibamlabW.PrintLast Go.Proofs.YtmppdgjnibamlabW.PrintMore
attribute [local go_sem] max2_int min2_int max_two min_two max_three min_three max_four min_four   -- for this text's walks alone
set_option linter.unusedVariables false
set_option linter.unusedSimpArgs false

/-! ### slices_Index_string_string: function 105 -/
def slices_Index_string_string.l0 : Nat → List ByteArray → ByteArray → Int → Int → Option (Int)
  | 0, _, _, _, _ => none
  | k + 1, x0, x1, x7, x8 => if x8 < x7 then (if 0 ≤ x8 then (if x8 < (x0.length : Int) then (if x1.toList = (rdOf ByteArray.empty x0 x8).toList then (some x8) else (slices_Index_string_string.l0 k x0 x1 x7 (wrap64 (x8 + 1)))) else (none)) else (none)) else (some (-1))
def slices_Index_string_string.f (k : Nat) (l0 : List ByteArray) (a1 : ByteArray) : Option (Int) := slices_Index_string_string.l0 k l0 a1 (l0.length : Int) 0
theorem slices_Index_string_string.mono_l : ∀ k, (∀ y0 y1 y2 y3, LeO (slices_Index_string_string.l0 k y0 y1 y2 y3) (slices_Index_string_string.l0 (k + 1) y0 y1 y2 y3))
  | 0 => fun _ _ _ _ r h => by simp [slices_Index_string_string.l0] at h
  | k + 1 => by
    have ih0 := slices_Index_string_string.mono_l k
    · intro y0 y1 y2 y3
      unfold slices_Index_string_string.l0
      repeat' first
      | (with_reducible exact ih0 _ _ _ _)
      | (with_reducible exact LeO.refl _)
      | (with_reducible exact LeO.none _)
      | (with_reducible refine LeO.ite ?_ ?_)
      | (with_reducible refine LeO.bind ?_ (fun _ => ?_))
      | exact ih0 _ _ _ _
      | exact LeO.none _
      | refine LeO.ite ?_ ?_
      | refine LeO.bind ?_ (fun _ => ?_)
theorem slices_Index_string_string.mono : ∀ a0 a1 k, LeO (slices_Index_string_string.f k a0 a1) (slices_Index_string_string.f (k + 1) a0 a1) := by
  intro a0 a1 k
  have ih0 := slices_Index_string_string.mono_l k
  unfold slices_Index_string_string.f
  repeat' first
      | (with_reducible exact ih0 _ _ _ _)
      | (with_reducible exact LeO.refl _)
      | (with_reducible exact LeO.none _)
      | (with_reducible refine LeO.ite ?_ ?_)
      | (with_reducible refine LeO.bind ?_ (fun _ => ?_))
      | exact ih0 _ _ _ _
      | exact LeO.none _
      | refine LeO.ite ?_ ?_
      | refine LeO.bind ?_ (fun _ => ?_)
set_option maxHeartbeats 8000000 in
set_option maxRecDepth 100000 in
theorem slices_Index_string_string.calls (k : Nat) (A0 : Option Addr) (c0 : Nat) (l0 : List ByteArray) (a1 : ByteArray) (r : Int) (w : World) (hr0 : Kd.C Kd.string w A0 l0.length l0) (hc0 : l0.length ≤ c0) (h : slices_Index_string_string.f k l0 a1 = some r) :
    Calls Try.prog 105 #[.slice A0 l0.length c0, .string a1] w fun e w' => e = .returned (.int .i64 r) ∧ Drawn0 w w' := by
  have HR0 := Aside0.mk hr0
  have HC0 := Aside0.mk hc0
  clear hr0 hc0
  have H : (slices_Index_string_string.l0 k l0 a1 (l0.length : Int) 0) = some r := h
  clear h
  have H' := Aside0.mk H
  clear H
  go_enter Try.func105, Try.ntmps105
  go_wp2
  go_loopg [8] k (fun kq v8 w' => ∃ (x8_1 : Int), v8 = .int .i64 x8_1 ∧ Aside0 (slices_Index_string_string.l0 kq l0 a1 (l0.length : Int) x8_1 = some r) ∧ Aside0 (kq ≤ k) ∧ Drawn0 w w')
  case atStart => exact ⟨(0), (by first | rfl | (simp; done) | (simp [*]; done)), H', ⟨Nat.le_refl _⟩, by repeat (first | exact Drawn0.refl _ | apply Drawn0.step)⟩
  case round =>
    clear H'
    try clear c1
    try clear p2
    obtain ⟨x8_1, rfl, HA, HK1, ⟨m1, rfl⟩⟩ := hrel
    cases gk with
    | zero => exact absurd HA.out (by simp [slices_Index_string_string.l0])
    | succ k1 =>
      have H := HA.out
      clear HA
      simp only [slices_Index_string_string.l0] at H
      by_cases c3 : x8_1 < (l0.length : Int)
      · rw [if_pos c3] at H
        have c3b0 : decide (x8_1 < (l0.length : Int)) = true := decide_eq_true c3
        clear c3
        by_cases c4 : 0 ≤ x8_1
        · rw [if_pos c4] at H
          have c4b0 : decide (0 ≤ x8_1) = true := decide_eq_true c4
          clear c4
          by_cases c5 : x8_1 < (l0.length : Int)
          · rw [if_pos c5] at H
            have c5b0 : decide (x8_1 < (l0.length : Int)) = true := decide_eq_true c5
            clear c5
            by_cases c6 : a1.toList = (rdOf ByteArray.empty l0 x8_1).toList
            · rw [if_pos c6] at H
              have c6b0 : (a1.toList == (rdOf ByteArray.empty l0 x8_1).toList) = true := beq_iff_eq.mpr c6
              have c6b1 : (a1.toList != (rdOf ByteArray.empty l0 x8_1).toList) = false := bne_eq_false_iff_eq.mpr c6
              clear c6
              obtain rfl := Option.some.inj H
              have p101 : 0 ≤ (x8_1 : Int) := of_decide_eq_true (by first | (with_reducible assumption) | assumption)
              have q101 : x8_1 < (l0.length : Int) := of_decide_eq_true (by first | (with_reducible assumption) | assumption)
              obtain ⟨ad101, e101, hx101_0⟩ := Kd.at_string HR0.out x8_1 p101 q101
              cases e101
              replace p101 := eq_true p101
              replace q101 := eq_true q101
              go_wp2
              go_ret
              exact ⟨by first | rfl | (simp; done) | (simp [*]; done), by repeat (first | exact Drawn0.refl _ | apply Drawn0.step)⟩
            · rw [if_neg c6] at H
              have c6b0 : (a1.toList == (rdOf ByteArray.empty l0 x8_1).toList) = false := beq_eq_false_iff_ne.mpr c6
              have c6b1 : (a1.toList != (rdOf ByteArray.empty l0 x8_1).toList) = true := bne_iff_ne.mpr c6
              have H' := Aside0.mk H
              clear H
              have p101 : 0 ≤ (x8_1 : Int) := of_decide_eq_true (by first | (with_reducible assumption) | assumption)
              have q101 : x8_1 < (l0.length : Int) := of_decide_eq_true (by first | (with_reducible assumption) | assumption)
              obtain ⟨ad101, e101, hx101_0⟩ := Kd.at_string HR0.out x8_1 p101 q101
              cases e101
              replace p101 := eq_true p101
              replace q101 := eq_true q101
              go_wp2
              go_roundg k1
              case measure => have := HK1.out; omega
              case rel => exact ⟨(wrap64 (x8_1 + 1)), (by first | rfl | (simp; done) | (simp [*]; done)), H', ⟨by have := HK1.out; omega⟩, by repeat (first | exact Drawn0.refl _ | apply Drawn0.step)⟩
          · rw [if_neg c5] at H
            exact absurd H (by simp)
        · rw [if_neg c4] at H
          exact absurd H (by simp)
      · rw [if_neg c3] at H
        have c3b0 : decide (x8_1 < (l0.length : Int)) = false := decide_eq_false c3
        clear c3
        obtain rfl := Option.some.inj H
        go_wp2
        go_ret
        exact ⟨by first | rfl | (simp; done) | (simp [*]; done), by repeat (first | exact Drawn0.refl _ | apply Drawn0.step)⟩

/-! ### slices_Contains_string_string: function 68 -/
def slices_Contains_string_string.f (k : Nat) (l0 : List ByteArray) (a1 : ByteArray) : Option (Bool) := (slices_Index_string_string.f k l0 a1).bind fun t102 => (some (decide (t102 ≥ 0)))
theorem slices_Contains_string_string.mono : ∀ a0 a1 k, LeO (slices_Contains_string_string.f k a0 a1) (slices_Contains_string_string.f (k + 1) a0 a1) := by
  intro a0 a1 k
  unfold slices_Contains_string_string.f
  repeat' first
      | (with_reducible exact slices_Index_string_string.mono _ _ _)
      | (with_reducible exact LeO.refl _)
      | (with_reducible exact LeO.none _)
      | (with_reducible refine LeO.ite ?_ ?_)
      | (with_reducible refine LeO.bind ?_ (fun _ => ?_))
      | exact slices_Index_string_string.mono _ _ _
      | exact LeO.none _
      | refine LeO.ite ?_ ?_
      | refine LeO.bind ?_ (fun _ => ?_)
set_option maxHeartbeats 8000000 in
set_option maxRecDepth 100000 in
theorem slices_Contains_string_string.calls (k : Nat) (A0 : Option Addr) (c0 : Nat) (l0 : List ByteArray) (a1 : ByteArray) (r : Bool) (w : World) (hr0 : Kd.C Kd.string w A0 l0.length l0) (hc0 : l0.length ≤ c0) (h : slices_Contains_string_string.f k l0 a1 = some r) :
    Calls Try.prog 68 #[.slice A0 l0.length c0, .string a1] w fun e w' => e = .returned (.bool r) ∧ Drawn0 w w' := by
  have HR0 := Aside0.mk hr0
  have HC0 := Aside0.mk hc0
  clear hr0 hc0
  have H : ((slices_Index_string_string.f k l0 a1).bind fun t102 => (some (decide (t102 ≥ 0)))) = some r := h
  clear h
  replace H := Option.bind_eq_some_iff.mp H
  obtain ⟨t102, A30, H⟩ := H
  replace H : (some (decide (t102 ≥ 0))) = some r := H
  have A3 := Aside0.mk A30
  clear A30
  obtain rfl := Option.some.inj H
  go_enter Try.func68, Try.ntmps68
  go_wp2_with (first | ((with_reducible refine gate_callee (f := 105) rfl ?_); refine goesL_ (some 7) rfl rfl Try.func105 (by kernel_rfl) rfl #[.slice A0 l0.length c0, .string a1] rfl (by (try simp only [List.map_toArray, List.map_cons, List.map_nil]); first | done | rfl | (simp only [List.length_drop, List.length_take]; rfl)) ?_; (with_reducible refine (slices_Index_string_string.calls k _ _ l0 a1 t102 _ ?side1 ?side2 A3.out).mono ?_); (case side1 => repeat (first | exact HR0.out | (with_reducible refine Kd.C_alloc ?_ _) | (with_reducible refine Kd.C_drewN ?_ _) | (with_reducible refine Kd.C_drew ?_))); (case side2 => exact HC0.out); rintro e w' ⟨rfl, ⟨nd, rfl⟩⟩; refine ⟨_, rfl, ?_⟩))
  go_ret
  exact ⟨by first | rfl | (simp; done) | (simp [*]; done), by repeat (first | exact Drawn0.refl _ | apply Drawn0.step)⟩

/-! ### feats_Holds: function 32 -/
mutual
def feats_Holds.l0 : Nat → List Int → List (S58) → Int → Int → Option (Bool)
  | 0, _, _, _, _ => none
  | k + 1, x1, x8, x9, x10 => if x10 < x9 then (if 0 ≤ x10 then (if x10 < (x8.length : Int) then (if ((rd_T58 x8 x10).f0) ≥ 0 then (feats_Holds.j1 k x1 0 x8 x9 x10 (decide (((rd_T58 x8 x10).f0) < (x1.length : Int))) ((rd_T58 x8 x10).f0) ((rd_T58 x8 x10).f1) ((rd_T58 x8 x10).f2)) else (feats_Holds.j1 k x1 0 x8 x9 x10 false ((rd_T58 x8 x10).f0) ((rd_T58 x8 x10).f1) ((rd_T58 x8 x10).f2))) else (none)) else (none)) else (some true)
def feats_Holds.j1 : Nat → List Int → Int → List (S58) → Int → Int → Bool → Int → Int → Int → Option (Bool)
  | 0, _, _, _, _, _, _, _, _, _ => none
  | k + 1, x1, x7, x8, x9, x10, x23, x105000, x105001, x105002 => if x23 = true then (if 0 ≤ x105000 then (if x105000 < (x1.length : Int) then (if x105000 < 0 then (some false) else (if (rd x1 x105000) < x105001 then (some false) else (if (rd x1 x105000) > x105002 then (some false) else (feats_Holds.l0 k x1 x8 x9 (wrap64 (x10 + 1)))))) else (none)) else (none)) else (if x105000 < 0 then (some false) else (if x7 < x105001 then (some false) else (if x7 > x105002 then (some false) else (feats_Holds.l0 k x1 x8 x9 (wrap64 (x10 + 1))))))
end
def feats_Holds.f (k : Nat) (l0 : List (S58)) (l1 : List Int) : Option (Bool) := feats_Holds.l0 k l1 l0 (l0.length : Int) 0
theorem feats_Holds.mono_l : ∀ k, (∀ y0 y1 y2 y3, LeO (feats_Holds.l0 k y0 y1 y2 y3) (feats_Holds.l0 (k + 1) y0 y1 y2 y3)) ∧ (∀ y0 y1 y2 y3 y4 y5 y6 y7 y8, LeO (feats_Holds.j1 k y0 y1 y2 y3 y4 y5 y6 y7 y8) (feats_Holds.j1 (k + 1) y0 y1 y2 y3 y4 y5 y6 y7 y8))
  | 0 => ⟨fun _ _ _ _ r h => by simp [feats_Holds.l0] at h, fun _ _ _ _ _ _ _ _ _ r h => by simp [feats_Holds.j1] at h⟩
  | k + 1 => by
    obtain ⟨ih0, ih1⟩ := feats_Holds.mono_l k
    refine ⟨?_, ?_⟩
    · intro y0 y1 y2 y3
      unfold feats_Holds.l0
      repeat' first
      | (with_reducible exact ih0 _ _ _ _)
      | (with_reducible exact ih1 _ _ _ _ _ _ _ _ _)
      | (with_reducible exact LeO.refl _)
      | (with_reducible exact LeO.none _)
      | (with_reducible refine LeO.ite ?_ ?_)
      | (with_reducible refine LeO.bind ?_ (fun _ => ?_))
      | exact ih0 _ _ _ _
      | exact ih1 _ _ _ _ _ _ _ _ _
      | exact LeO.none _
      | refine LeO.ite ?_ ?_
      | refine LeO.bind ?_ (fun _ => ?_)
    · intro y0 y1 y2 y3 y4 y5 y6 y7 y8
      unfold feats_Holds.j1
      repeat' first
      | (with_reducible exact ih0 _ _ _ _)
      | (with_reducible exact ih1 _ _ _ _ _ _ _ _ _)
      | (with_reducible exact LeO.refl _)
      | (with_reducible exact LeO.none _)
      | (with_reducible refine LeO.ite ?_ ?_)
      | (with_reducible refine LeO.bind ?_ (fun _ => ?_))
      | exact ih0 _ _ _ _
      | exact ih1 _ _ _ _ _ _ _ _ _
      | exact LeO.none _
      | refine LeO.ite ?_ ?_
      | refine LeO.bind ?_ (fun _ => ?_)
theorem feats_Holds.mono : ∀ a0 a1 k, LeO (feats_Holds.f k a0 a1) (feats_Holds.f (k + 1) a0 a1) := by
  intro a0 a1 k
  obtain ⟨ih0, ih1⟩ := feats_Holds.mono_l k
  unfold feats_Holds.f
  repeat' first
      | (with_reducible exact ih0 _ _ _ _)
      | (with_reducible exact ih1 _ _ _ _ _ _ _ _ _)
      | (with_reducible exact LeO.refl _)
      | (with_reducible exact LeO.none _)
      | (with_reducible refine LeO.ite ?_ ?_)
      | (with_reducible refine LeO.bind ?_ (fun _ => ?_))
      | exact ih0 _ _ _ _
      | exact ih1 _ _ _ _ _ _ _ _ _
      | exact LeO.none _
      | refine LeO.ite ?_ ?_
      | refine LeO.bind ?_ (fun _ => ?_)
set_option maxHeartbeats 8000000 in
set_option maxRecDepth 100000 in
theorem feats_Holds.calls (k : Nat) (A0 : Option Addr) (c0 : Nat) (l0 : List (S58)) (A1 : Option Addr) (c1 : Nat) (l1 : List Int) (r : Bool) (w : World) (hr0 : Kd.C k58 w A0 l0.length l0) (hc0 : l0.length ≤ c0) (hr1 : Kd.C (Kd.int .i64) w A1 l1.length l1) (hc1 : l1.length ≤ c1) (h : feats_Holds.f k l0 l1 = some r) :
    Calls Try.prog 32 #[.slice A0 l0.length c0, .slice A1 l1.length c1] w fun e w' => e = .returned (.bool r) ∧ Below w.heap.size w w' := by
  have hu58 := Try.underlying58
  have HR0 := Aside0.mk hr0
  have HC0 := Aside0.mk hc0
  clear hr0 hc0
  have HR1 := Aside0.mk hr1
  have HC1 := Aside0.mk hc1
  clear hr1 hc1
  have HB := Aside0.mk (Below.refl w.heap.size w)
  have H : (feats_Holds.l0 k l1 l0 (l0.length : Int) 0) = some r := h
  clear h
  have H' := Aside0.mk H
  clear H
  go_enter Try.func32, Try.ntmps32
  go_wp2
  go_loopg [10] k (fun kq v10 w' => ∃ (x10_1 : Int), v10 = .int .i64 x10_1 ∧ Aside0 (feats_Holds.l0 kq l1 l0 (l0.length : Int) x10_1 = some r) ∧ Aside0 (kq ≤ k) ∧ Aside0 (Below w.heap.size w w'))
  case atStart => exact ⟨(0), (by first | rfl | (simp; done) | (simp [*]; done)), H', ⟨Nat.le_refl _⟩, ⟨by repeat (first | (with_reducible first | exact HB.out | apply below_alloc | apply pw_below_drewN | apply below_drew1) | exact HB.out)⟩⟩
  case round =>
    clear H'
    try clear c1
    try clear p2
    obtain ⟨x10_1, rfl, HA, HK1, HB⟩ := hrel
    cases gk with
    | zero => exact absurd HA.out (by simp [feats_Holds.l0])
    | succ k1 =>
      have H := HA.out
      clear HA
      simp only [feats_Holds.l0] at H
      by_cases c3 : x10_1 < (l0.length : Int)
      · rw [if_pos c3] at H
        have c3b0 : decide (x10_1 < (l0.length : Int)) = true := decide_eq_true c3
        clear c3
        by_cases c4 : 0 ≤ x10_1
        · rw [if_pos c4] at H
          have c4b0 : decide (0 ≤ x10_1) = true := decide_eq_true c4
          clear c4
          by_cases c5 : x10_1 < (l0.length : Int)
          · rw [if_pos c5] at H
            have c5b0 : decide (x10_1 < (l0.length : Int)) = true := decide_eq_true c5
            clear c5
            have HC6 := Aside0.mk H
            clear H
            have p103 : 0 ≤ (x10_1 : Int) := of_decide_eq_true (by first | (with_reducible assumption) | assumption)
            have q103 : x10_1 < (l0.length : Int) := of_decide_eq_true (by first | (with_reducible assumption) | assumption)
            obtain ⟨ad103, e103, hx103_0, hx103_1, hx103_2⟩ := at_T58 HR0.out x10_1 p103 q103
            cases e103
            replace hx103_0 := (HB.out.cell (World.block_lt_of_cell? w _ hx103_0)).trans hx103_0
            replace hx103_1 := (HB.out.cell (World.block_lt_of_cell? w _ hx103_1)).trans hx103_1
            replace hx103_2 := (HB.out.cell (World.block_lt_of_cell? w _ hx103_2)).trans hx103_2
            replace p103 := eq_true p103
            replace q103 := eq_true q103
            go_upto_region 5 with (first | ((with_reducible refine gate_dst (N := 6) rfl ?_); (try (refine gate_guard (by rfl) ?_; dsimp only)); refine box_event ?hg (N := 6) ?hd (cs := #[.int .i64 0, .int .i64 0, .int .i64 0]) (t := 58) ?hr ?_; (case hd => rfl); (case hg => rfl); (case hr => first | (go_simp; done) | (go_simp; rfl)); intro gb104 hg w7 hbox hb; have n0_ := Aside0.mk (below_step (by repeat (first | (with_reducible first | exact HB.out | apply below_alloc | apply pw_below_drewN | apply below_drew1) | exact HB.out)) hb); have n1_ := Aside0.mk (hbox); have n2_ := Aside0.mk ((by rw [hg]; exact (below_size (by repeat (first | (with_reducible first | exact HB.out | apply below_alloc | apply pw_below_drewN | apply below_drew1) | exact HB.out))) : w.heap.size ≤ gb104)); have n3_ := Aside0.mk ((by rw [hg]; exact (below_size (by repeat (first | (with_reducible first | exact HB.out | apply below_alloc | apply pw_below_drewN | apply below_drew1) | exact HB.out))) : w.heap.size ≤ gb104)); clear HB; have HB := n0_; have BK104 := n1_; have GW104 := n2_; have GE104 := n3_; clear n0_ n1_ n2_ n3_; clear hb hbox hg; have hcz8_0 : w7.cell? ⟨gb104, 0, none⟩ = some (.int .i64 0) := (blk_cell BK104.out 0).trans rfl; have hcz8_1 : w7.cell? ⟨gb104, 1, none⟩ = some (.int .i64 0) := (blk_cell BK104.out 1).trans rfl; have hcz8_2 : w7.cell? ⟨gb104, 2, none⟩ = some (.int .i64 0) := (blk_cell BK104.out 2).trans rfl; have hfz8_0 := blk_frozen BK104.out 0; have hfz8_1 := blk_frozen BK104.out 1; have hfz8_2 := blk_frozen BK104.out 2))
            (try simp only [Act.put, List.setIfInBounds_toArray, List.set_cons_zero, List.set_cons_succ])
            go_cut [23] (fun v23 wc => ∃ (kq : Nat) (x23_5 : Bool), v23 = .bool x23_5 ∧ Aside0 (feats_Holds.j1 kq l1 0 l0 (l0.length : Int) x10_1 x23_5 ((rd_T58 l0 x10_1).f0) ((rd_T58 l0 x10_1).f1) ((rd_T58 l0 x10_1).f2) = some r) ∧ Aside0 (kq ≤ k1) ∧ Aside0 (wc.heap[gb104]? = some (.cells #[.int .i64 ((rd_T58 l0 x10_1).f0), .int .i64 ((rd_T58 l0 x10_1).f1), .int .i64 ((rd_T58 l0 x10_1).f2)] 58 (0, 0))) ∧ Aside0 (Below w.heap.size w wc))
            case first =>
              have H := HC6.out
              clear HC6
              by_cases c9 : ((rd_T58 l0 x10_1).f0) ≥ 0
              · rw [if_pos c9] at H
                have c9b0 : decide (0 ≤ ((rd_T58 l0 x10_1).f0)) = true := decide_eq_true c9
                clear c9
                (first | rw [c9b0] | (simp only [i64_w, i32_w]; rw [c9b0]) | skip)
                have H' := Aside0.mk H
                clear H
                have hcz10_0 : w7.cell? ⟨gb104, 0, none⟩ = some (.int .i64 0) := (blk_cell BK104.out 0).trans rfl
                have hcz10_1 : w7.cell? ⟨gb104, 1, none⟩ = some (.int .i64 0) := (blk_cell BK104.out 1).trans rfl
                have hcz10_2 : w7.cell? ⟨gb104, 2, none⟩ = some (.int .i64 0) := (blk_cell BK104.out 2).trans rfl
                have hfz10_0 := blk_frozen BK104.out 0
                have hfz10_1 := blk_frozen BK104.out 1
                have hfz10_2 := blk_frozen BK104.out 2
                go_wp2
                go_meet
                case rel => exact ⟨_, (decide (((rd_T58 l0 x10_1).f0) < (l1.length : Int))), (by first | rfl | (simp; done) | (simp [*]; done)), H', ⟨by have := HK1.out; first | omega | exact Nat.le_refl _⟩, ⟨by (with_reducible repeat (first | refine blk_drewN ?_ _ | refine blk_drew ?_ | refine blk_alloc ?_ _)); refine blk_put (cs := #[.int .i64 ((rd_T58 l0 x10_1).f0), .int .i64 ((rd_T58 l0 x10_1).f1), .int .i64 0]) ?_ 2 _ rfl; (with_reducible repeat (first | refine blk_drewN ?_ _ | refine blk_drew ?_ | refine blk_alloc ?_ _)); refine blk_put (cs := #[.int .i64 ((rd_T58 l0 x10_1).f0), .int .i64 0, .int .i64 0]) ?_ 1 _ rfl; (with_reducible repeat (first | refine blk_drewN ?_ _ | refine blk_drew ?_ | refine blk_alloc ?_ _)); refine blk_put (cs := #[.int .i64 0, .int .i64 0, .int .i64 0]) ?_ 0 _ rfl; (with_reducible repeat (first | refine blk_drewN ?_ _ | refine blk_drew ?_ | refine blk_alloc ?_ _)); exact BK104.out⟩, ⟨by repeat (first | (with_reducible first | exact HB.out | apply below_alloc | apply pw_below_drewN | apply below_drew1 | refine below_set ?_ GE104.out) | exact HB.out)⟩⟩
              · rw [if_neg c9] at H
                have c9b0 : decide (0 ≤ ((rd_T58 l0 x10_1).f0)) = false := decide_eq_false c9
                clear c9
                (first | rw [c9b0] | (simp only [i64_w, i32_w]; rw [c9b0]) | skip)
                have H' := Aside0.mk H
                clear H
                have hcz11_0 : w7.cell? ⟨gb104, 0, none⟩ = some (.int .i64 0) := (blk_cell BK104.out 0).trans rfl
                have hcz11_1 : w7.cell? ⟨gb104, 1, none⟩ = some (.int .i64 0) := (blk_cell BK104.out 1).trans rfl
                have hcz11_2 : w7.cell? ⟨gb104, 2, none⟩ = some (.int .i64 0) := (blk_cell BK104.out 2).trans rfl
                have hfz11_0 := blk_frozen BK104.out 0
                have hfz11_1 := blk_frozen BK104.out 1
                have hfz11_2 := blk_frozen BK104.out 2
                go_wp2
                go_meet
                case rel => exact ⟨_, (false), (by first | rfl | (simp; done) | (simp [*]; done)), H', ⟨by have := HK1.out; first | omega | exact Nat.le_refl _⟩, ⟨by (with_reducible repeat (first | refine blk_drewN ?_ _ | refine blk_drew ?_ | refine blk_alloc ?_ _)); refine blk_put (cs := #[.int .i64 ((rd_T58 l0 x10_1).f0), .int .i64 ((rd_T58 l0 x10_1).f1), .int .i64 0]) ?_ 2 _ rfl; (with_reducible repeat (first | refine blk_drewN ?_ _ | refine blk_drew ?_ | refine blk_alloc ?_ _)); refine blk_put (cs := #[.int .i64 ((rd_T58 l0 x10_1).f0), .int .i64 0, .int .i64 0]) ?_ 1 _ rfl; (with_reducible repeat (first | refine blk_drewN ?_ _ | refine blk_drew ?_ | refine blk_alloc ?_ _)); refine blk_put (cs := #[.int .i64 0, .int .i64 0, .int .i64 0]) ?_ 0 _ rfl; (with_reducible repeat (first | refine blk_drewN ?_ _ | refine blk_drew ?_ | refine blk_alloc ?_ _)); exact BK104.out⟩, ⟨by repeat (first | (with_reducible first | exact HB.out | apply below_alloc | apply pw_below_drewN | apply below_drew1 | refine below_set ?_ GE104.out) | exact HB.out)⟩⟩
            case rest =>
              clear HC6
              try clear c1
              try clear p1
              try clear q1
              try clear hx1
              try clear p2
              try clear c3
              try clear c3b0
              try clear c4
              try clear c4b0
              try clear c5
              try clear c5b0
              try clear c9
              try clear c9b0
              try clear p10
              try clear q10
              try clear hx10
              try clear hcz10_0
              try clear hcz10_1
              try clear hcz10_2
              try clear hcz11_0
              try clear hcz11_1
              try clear hcz11_2
              try clear hcz8_0
              try clear hcz8_1
              try clear hcz8_2
              try clear hfz10_0
              try clear hfz10_1
              try clear hfz10_2
              try clear hfz11_0
              try clear hfz11_1
              try clear hfz11_2
              try clear hfz8_0
              try clear hfz8_1
              try clear hfz8_2
              try clear hx103_0
              try clear hx103_1
              try clear hx103_2
              try clear p103
              try clear p2
              try clear q103
              obtain ⟨kq, x23_5, rfl, HA, HJ5, BK104, HB⟩ := hcut
              cases kq with
              | zero => exact absurd HA.out (by simp [feats_Holds.j1])
              | succ kj5 =>
                have H := HA.out
                clear HA
                simp only [feats_Holds.j1] at H
                by_cases c12 : x23_5 = true
                · subst c12
                  have H1 : (if 0 ≤ ((rd_T58 l0 x10_1).f0) then (if ((rd_T58 l0 x10_1).f0) < (l1.length : Int) then (if ((rd_T58 l0 x10_1).f0) < 0 then (some false) else (if (rd l1 ((rd_T58 l0 x10_1).f0)) < ((rd_T58 l0 x10_1).f1) then (some false) else (if (rd l1 ((rd_T58 l0 x10_1).f0)) > ((rd_T58 l0 x10_1).f2) then (some false) else (feats_Holds.l0 kj5 l1 l0 (l0.length : Int) (wrap64 (x10_1 + 1)))))) else (none)) else (none)) = some r := by rw [if_pos rfl] at H; exact H
                  clear H
                  have H := H1
                  clear H1
                  by_cases c13 : 0 ≤ ((rd_T58 l0 x10_1).f0)
                  · rw [if_pos c13] at H
                    have c13b0 : decide (0 ≤ ((rd_T58 l0 x10_1).f0)) = true := decide_eq_true c13
                    clear c13
                    by_cases c14 : ((rd_T58 l0 x10_1).f0) < (l1.length : Int)
                    · rw [if_pos c14] at H
                      have c14b0 : decide (((rd_T58 l0 x10_1).f0) < (l1.length : Int)) = true := decide_eq_true c14
                      clear c14
                      by_cases c15 : ((rd_T58 l0 x10_1).f0) < 0
                      · rw [if_pos c15] at H
                        have c15b0 : decide (((rd_T58 l0 x10_1).f0) < 0) = true := decide_eq_true c15
                        clear c15
                        obtain rfl := Option.some.inj H
                        have hcz16_0 : wc.cell? ⟨gb104, 0, none⟩ = some (.int .i64 ((rd_T58 l0 x10_1).f0)) := (blk_cell BK104.out 0).trans rfl
                        have hcz16_1 : wc.cell? ⟨gb104, 1, none⟩ = some (.int .i64 ((rd_T58 l0 x10_1).f1)) := (blk_cell BK104.out 1).trans rfl
                        have hcz16_2 : wc.cell? ⟨gb104, 2, none⟩ = some (.int .i64 ((rd_T58 l0 x10_1).f2)) := (blk_cell BK104.out 2).trans rfl
                        have hfz16_0 := blk_frozen BK104.out 0
                        have hfz16_1 := blk_frozen BK104.out 1
                        have hfz16_2 := blk_frozen BK104.out 2
                        have p105 : 0 ≤ (((rd_T58 l0 x10_1).f0) : Int) := of_decide_eq_true (by first | (with_reducible assumption) | assumption)
                        have q105 : ((rd_T58 l0 x10_1).f0) < (l1.length : Int) := of_decide_eq_true (by first | (with_reducible assumption) | assumption)
                        obtain ⟨ad105, e105, hx105_0⟩ := Kd.at_int HR1.out ((rd_T58 l0 x10_1).f0) p105 q105
                        cases e105
                        replace hx105_0 := (HB.out.cell (World.block_lt_of_cell? w _ hx105_0)).trans hx105_0
                        replace p105 := eq_true p105
                        replace q105 := eq_true q105
                        go_wp2
                        go_ret
                        exact ⟨by first | rfl | (simp [errW_none, errW_some] <;> rfl) | (simp [*, errW_none, errW_some] <;> rfl), by repeat (first | (with_reducible first | exact HB.out | apply below_alloc | apply pw_below_drewN | apply below_drew1 | refine below_set ?_ GE104.out) | exact HB.out)⟩
                      · rw [if_neg c15] at H
                        have c15b0 : decide (((rd_T58 l0 x10_1).f0) < 0) = false := decide_eq_false c15
                        clear c15
                        by_cases c17 : (rd l1 ((rd_T58 l0 x10_1).f0)) < ((rd_T58 l0 x10_1).f1)
                        · rw [if_pos c17] at H
                          have c17b0 : decide ((rd l1 ((rd_T58 l0 x10_1).f0)) < ((rd_T58 l0 x10_1).f1)) = true := decide_eq_true c17
                          clear c17
                          obtain rfl := Option.some.inj H
                          have hcz18_0 : wc.cell? ⟨gb104, 0, none⟩ = some (.int .i64 ((rd_T58 l0 x10_1).f0)) := (blk_cell BK104.out 0).trans rfl
                          have hcz18_1 : wc.cell? ⟨gb104, 1, none⟩ = some (.int .i64 ((rd_T58 l0 x10_1).f1)) := (blk_cell BK104.out 1).trans rfl
                          have hcz18_2 : wc.cell? ⟨gb104, 2, none⟩ = some (.int .i64 ((rd_T58 l0 x10_1).f2)) := (blk_cell BK104.out 2).trans rfl
                          have hfz18_0 := blk_frozen BK104.out 0
                          have hfz18_1 := blk_frozen BK104.out 1
                          have hfz18_2 := blk_frozen BK104.out 2
                          have p105 : 0 ≤ (((rd_T58 l0 x10_1).f0) : Int) := of_decide_eq_true (by first | (with_reducible assumption) | assumption)
                          have q105 : ((rd_T58 l0 x10_1).f0) < (l1.length : Int) := of_decide_eq_true (by first | (with_reducible assumption) | assumption)
                          obtain ⟨ad105, e105, hx105_0⟩ := Kd.at_int HR1.out ((rd_T58 l0 x10_1).f0) p105 q105
                          cases e105
                          replace hx105_0 := (HB.out.cell (World.block_lt_of_cell? w _ hx105_0)).trans hx105_0
                          replace p105 := eq_true p105
                          replace q105 := eq_true q105
                          go_wp2
                          go_ret
                          exact ⟨by first | rfl | (simp [errW_none, errW_some] <;> rfl) | (simp [*, errW_none, errW_some] <;> rfl), by repeat (first | (with_reducible first | exact HB.out | apply below_alloc | apply pw_below_drewN | apply below_drew1 | refine below_set ?_ GE104.out) | exact HB.out)⟩
                        · rw [if_neg c17] at H
                          have c17b0 : decide ((rd l1 ((rd_T58 l0 x10_1).f0)) < ((rd_T58 l0 x10_1).f1)) = false := decide_eq_false c17
                          clear c17
                          by_cases c19 : (rd l1 ((rd_T58 l0 x10_1).f0)) > ((rd_T58 l0 x10_1).f2)
                          · rw [if_pos c19] at H
                            have c19b0 : decide (((rd_T58 l0 x10_1).f2) < (rd l1 ((rd_T58 l0 x10_1).f0))) = true := decide_eq_true c19
                            clear c19
                            obtain rfl := Option.some.inj H
                            have hcz20_0 : wc.cell? ⟨gb104, 0, none⟩ = some (.int .i64 ((rd_T58 l0 x10_1).f0)) := (blk_cell BK104.out 0).trans rfl
                            have hcz20_1 : wc.cell? ⟨gb104, 1, none⟩ = some (.int .i64 ((rd_T58 l0 x10_1).f1)) := (blk_cell BK104.out 1).trans rfl
                            have hcz20_2 : wc.cell? ⟨gb104, 2, none⟩ = some (.int .i64 ((rd_T58 l0 x10_1).f2)) := (blk_cell BK104.out 2).trans rfl
                            have hfz20_0 := blk_frozen BK104.out 0
                            have hfz20_1 := blk_frozen BK104.out 1
                            have hfz20_2 := blk_frozen BK104.out 2
                            have p105 : 0 ≤ (((rd_T58 l0 x10_1).f0) : Int) := of_decide_eq_true (by first | (with_reducible assumption) | assumption)
                            have q105 : ((rd_T58 l0 x10_1).f0) < (l1.length : Int) := of_decide_eq_true (by first | (with_reducible assumption) | assumption)
                            obtain ⟨ad105, e105, hx105_0⟩ := Kd.at_int HR1.out ((rd_T58 l0 x10_1).f0) p105 q105
                            cases e105
                            replace hx105_0 := (HB.out.cell (World.block_lt_of_cell? w _ hx105_0)).trans hx105_0
                            replace p105 := eq_true p105
                            replace q105 := eq_true q105
                            go_wp2
                            go_ret
                            exact ⟨by first | rfl | (simp [errW_none, errW_some] <;> rfl) | (simp [*, errW_none, errW_some] <;> rfl), by repeat (first | (with_reducible first | exact HB.out | apply below_alloc | apply pw_below_drewN | apply below_drew1 | refine below_set ?_ GE104.out) | exact HB.out)⟩
                          · rw [if_neg c19] at H
                            have c19b0 : decide (((rd_T58 l0 x10_1).f2) < (rd l1 ((rd_T58 l0 x10_1).f0))) = false := decide_eq_false c19
                            clear c19
                            have H' := Aside0.mk H
                            clear H
                            have hcz21_0 : wc.cell? ⟨gb104, 0, none⟩ = some (.int .i64 ((rd_T58 l0 x10_1).f0)) := (blk_cell BK104.out 0).trans rfl
                            have hcz21_1 : wc.cell? ⟨gb104, 1, none⟩ = some (.int .i64 ((rd_T58 l0 x10_1).f1)) := (blk_cell BK104.out 1).trans rfl
                            have hcz21_2 : wc.cell? ⟨gb104, 2, none⟩ = some (.int .i64 ((rd_T58 l0 x10_1).f2)) := (blk_cell BK104.out 2).trans rfl
                            have hfz21_0 := blk_frozen BK104.out 0
                            have hfz21_1 := blk_frozen BK104.out 1
                            have hfz21_2 := blk_frozen BK104.out 2
                            have p105 : 0 ≤ (((rd_T58 l0 x10_1).f0) : Int) := of_decide_eq_true (by first | (with_reducible assumption) | assumption)
                            have q105 : ((rd_T58 l0 x10_1).f0) < (l1.length : Int) := of_decide_eq_true (by first | (with_reducible assumption) | assumption)
                            obtain ⟨ad105, e105, hx105_0⟩ := Kd.at_int HR1.out ((rd_T58 l0 x10_1).f0) p105 q105
                            cases e105
                            replace hx105_0 := (HB.out.cell (World.block_lt_of_cell? w _ hx105_0)).trans hx105_0
                            replace p105 := eq_true p105
                            replace q105 := eq_true q105
                            go_wp2
                            go_roundg kj5
                            case measure => have := HK1.out; have := HJ5.out; omega
                            case rel => exact ⟨(wrap64 (x10_1 + 1)), (by first | rfl | (simp; done) | (simp [*]; done)), H', ⟨by have := HK1.out; have := HJ5.out; omega⟩, ⟨by repeat (first | (with_reducible first | exact HB.out | apply below_alloc | apply pw_below_drewN | apply below_drew1 | refine below_set ?_ GE104.out) | exact HB.out)⟩⟩
                    · rw [if_neg c14] at H
                      exact absurd H (by simp)
                  · rw [if_neg c13] at H
                    exact absurd H (by simp)
                · replace c12 := Bool.eq_false_iff.mpr c12
                  subst c12
                  have H1 : (if ((rd_T58 l0 x10_1).f0) < 0 then (some false) else (if 0 < ((rd_T58 l0 x10_1).f1) then (some false) else (if 0 > ((rd_T58 l0 x10_1).f2) then (some false) else (feats_Holds.l0 kj5 l1 l0 (l0.length : Int) (wrap64 (x10_1 + 1)))))) = some r := by rw [if_neg (show ¬ (false = true) by decide)] at H; exact H
                  clear H
                  have H := H1
                  clear H1
                  by_cases c22 : ((rd_T58 l0 x10_1).f0) < 0
                  · rw [if_pos c22] at H
                    have c22b0 : decide (((rd_T58 l0 x10_1).f0) < 0) = true := decide_eq_true c22
                    clear c22
                    obtain rfl := Option.some.inj H
                    have hcz23_0 : wc.cell? ⟨gb104, 0, none⟩ = some (.int .i64 ((rd_T58 l0 x10_1).f0)) := (blk_cell BK104.out 0).trans rfl
                    have hcz23_1 : wc.cell? ⟨gb104, 1, none⟩ = some (.int .i64 ((rd_T58 l0 x10_1).f1)) := (blk_cell BK104.out 1).trans rfl
                    have hcz23_2 : wc.cell? ⟨gb104, 2, none⟩ = some (.int .i64 ((rd_T58 l0 x10_1).f2)) := (blk_cell BK104.out 2).trans rfl
                    have hfz23_0 := blk_frozen BK104.out 0
                    have hfz23_1 := blk_frozen BK104.out 1
                    have hfz23_2 := blk_frozen BK104.out 2
                    go_wp2
                    go_ret
                    exact ⟨by first | rfl | (simp [errW_none, errW_some] <;> rfl) | (simp [*, errW_none, errW_some] <;> rfl), by repeat (first | (with_reducible first | exact HB.out | apply below_alloc | apply pw_below_drewN | apply below_drew1 | refine below_set ?_ GE104.out) | exact HB.out)⟩
                  · rw [if_neg c22] at H
                    have c22b0 : decide (((rd_T58 l0 x10_1).f0) < 0) = false := decide_eq_false c22
                    clear c22
                    by_cases c24 : 0 < ((rd_T58 l0 x10_1).f1)
                    · rw [if_pos c24] at H
                      have c24b0 : decide (0 < ((rd_T58 l0 x10_1).f1)) = true := decide_eq_true c24
                      clear c24
                      obtain rfl := Option.some.inj H
                      have hcz25_0 : wc.cell? ⟨gb104, 0, none⟩ = some (.int .i64 ((rd_T58 l0 x10_1).f0)) := (blk_cell BK104.out 0).trans rfl
                      have hcz25_1 : wc.cell? ⟨gb104, 1, none⟩ = some (.int .i64 ((rd_T58 l0 x10_1).f1)) := (blk_cell BK104.out 1).trans rfl
                      have hcz25_2 : wc.cell? ⟨gb104, 2, none⟩ = some (.int .i64 ((rd_T58 l0 x10_1).f2)) := (blk_cell BK104.out 2).trans rfl
                      have hfz25_0 := blk_frozen BK104.out 0
                      have hfz25_1 := blk_frozen BK104.out 1
                      have hfz25_2 := blk_frozen BK104.out 2
                      go_wp2
                      go_ret
                      exact ⟨by first | rfl | (simp [errW_none, errW_some] <;> rfl) | (simp [*, errW_none, errW_some] <;> rfl), by repeat (first | (with_reducible first | exact HB.out | apply below_alloc | apply pw_below_drewN | apply below_drew1 | refine below_set ?_ GE104.out) | exact HB.out)⟩
                    · rw [if_neg c24] at H
                      have c24b0 : decide (0 < ((rd_T58 l0 x10_1).f1)) = false := decide_eq_false c24
                      clear c24
                      by_cases c26 : 0 > ((rd_T58 l0 x10_1).f2)
                      · rw [if_pos c26] at H
                        have c26b0 : decide (((rd_T58 l0 x10_1).f2) < 0) = true := decide_eq_true c26
                        clear c26
                        obtain rfl := Option.some.inj H
                        have hcz27_0 : wc.cell? ⟨gb104, 0, none⟩ = some (.int .i64 ((rd_T58 l0 x10_1).f0)) := (blk_cell BK104.out 0).trans rfl
                        have hcz27_1 : wc.cell? ⟨gb104, 1, none⟩ = some (.int .i64 ((rd_T58 l0 x10_1).f1)) := (blk_cell BK104.out 1).trans rfl
                        have hcz27_2 : wc.cell? ⟨gb104, 2, none⟩ = some (.int .i64 ((rd_T58 l0 x10_1).f2)) := (blk_cell BK104.out 2).trans rfl
                        have hfz27_0 := blk_frozen BK104.out 0
                        have hfz27_1 := blk_frozen BK104.out 1
                        have hfz27_2 := blk_frozen BK104.out 2
                        go_wp2
                        go_ret
                        exact ⟨by first | rfl | (simp [errW_none, errW_some] <;> rfl) | (simp [*, errW_none, errW_some] <;> rfl), by repeat (first | (with_reducible first | exact HB.out | apply below_alloc | apply pw_below_drewN | apply below_drew1 | refine below_set ?_ GE104.out) | exact HB.out)⟩
                      · rw [if_neg c26] at H
                        have c26b0 : decide (((rd_T58 l0 x10_1).f2) < 0) = false := decide_eq_false c26
                        clear c26
                        have H' := Aside0.mk H
                        clear H
                        have hcz28_0 : wc.cell? ⟨gb104, 0, none⟩ = some (.int .i64 ((rd_T58 l0 x10_1).f0)) := (blk_cell BK104.out 0).trans rfl
                        have hcz28_1 : wc.cell? ⟨gb104, 1, none⟩ = some (.int .i64 ((rd_T58 l0 x10_1).f1)) := (blk_cell BK104.out 1).trans rfl
                        have hcz28_2 : wc.cell? ⟨gb104, 2, none⟩ = some (.int .i64 ((rd_T58 l0 x10_1).f2)) := (blk_cell BK104.out 2).trans rfl
                        have hfz28_0 := blk_frozen BK104.out 0
                        have hfz28_1 := blk_frozen BK104.out 1
                        have hfz28_2 := blk_frozen BK104.out 2
                        go_wp2
                        go_roundg kj5
                        case measure => have := HK1.out; have := HJ5.out; omega
                        case rel => exact ⟨(wrap64 (x10_1 + 1)), (by first | rfl | (simp; done) | (simp [*]; done)), H', ⟨by have := HK1.out; have := HJ5.out; omega⟩, ⟨by repeat (first | (with_reducible first | exact HB.out | apply below_alloc | apply pw_below_drewN | apply below_drew1 | refine below_set ?_ GE104.out) | exact HB.out)⟩⟩
          · rw [if_neg c5] at H
            exact absurd H (by simp)
        · rw [if_neg c4] at H
          exact absurd H (by simp)
      · rw [if_neg c3] at H
        have c3b0 : decide (x10_1 < (l0.length : Int)) = false := decide_eq_false c3
        clear c3
        obtain rfl := Option.some.inj H
        go_wp2
        go_ret
        exact ⟨by first | rfl | (simp [errW_none, errW_some] <;> rfl) | (simp [*, errW_none, errW_some] <;> rfl), by repeat (first | (with_reducible first | exact HB.out | apply below_alloc | apply pw_below_drewN | apply below_drew1) | exact HB.out)⟩

end Go.Proofs.Ytmppdgjnibamlab.PFe
