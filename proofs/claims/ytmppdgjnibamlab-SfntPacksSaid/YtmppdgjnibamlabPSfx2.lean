/- Printed by this session's run of print.py (with contracts of its own taken as given): the functions that these laws reach, their contracts. No condition. -/
import Derived.Test.YtmppdgjnibamlabSfK
import Derived.Test.YtmppdgjnibamlabPSfx0
namespace Go.Proofs.Ytmppdgjnibamlab.PSf
open Go.RowKit Go.Proofs.YtmppdgjnibamlabW.PrintWords Go.Proofs.YtmppdgjnibamlabW.PrintLast Go.Proofs.YtmppdgjnibamlabW.PrintMore
attribute [local go_sem] max2_int min2_int max_two min_two max_three min_three max_four min_four   -- for this text's walks alone
open Go.Proofs.Ytmppdgjnibamlab.Pag (run_leq_of run_gtr_of)
set_option linter.unusedVariables false
set_option linter.unusedSimpArgs false

/-! ### foundryref05_risen: function 114 -/
mutual
def foundryref05_risen.l0 : Nat → List (S123) → List (S123) → Option ((List (S123)))
  | 0, _, _ => none
  | k + 1, x0, x3 => if (x3.length : Int) < (x0.length : Int) then (foundryref05_risen.l1 k x0 x3 (-1) 0) else (some x3)
def foundryref05_risen.l1 : Nat → List (S123) → List (S123) → Int → Int → Option ((List (S123)))
  | 0, _, _, _, _ => none
  | k + 1, x0, x3, x4, x5 => if x5 < (x0.length : Int) then (if (x3.length : Int) = 0 then (if x4 < 0 then (foundryref05_risen.l1 k x0 x3 x5 (wrap64 (x5 + 1))) else (if 0 ≤ x5 then (if 0 ≤ x4 then (if x4 < (x0.length : Int) then (if (Op.bytesLess (((rd_T123 x0 x5).f0).toList) (((rd_T123 x0 x4).f0).toList)) = true then (foundryref05_risen.l1 k x0 x3 x5 (wrap64 (x5 + 1))) else (foundryref05_risen.l1 k x0 x3 x4 (wrap64 (x5 + 1)))) else (none)) else (none)) else (none))) else (if 0 ≤ x5 then (if 0 ≤ (wrap64 ((x3.length : Int) - 1)) then (if (wrap64 ((x3.length : Int) - 1)) < (x3.length : Int) then (if (Op.bytesLess (((rd_T123 x3 (wrap64 ((x3.length : Int) - 1))).f0).toList) (((rd_T123 x0 x5).f0).toList)) = true then (if x4 < 0 then (foundryref05_risen.l1 k x0 x3 x5 (wrap64 (x5 + 1))) else (if 0 ≤ x4 then (if x4 < (x0.length : Int) then (if (Op.bytesLess (((rd_T123 x0 x5).f0).toList) (((rd_T123 x0 x4).f0).toList)) = true then (foundryref05_risen.l1 k x0 x3 x5 (wrap64 (x5 + 1))) else (foundryref05_risen.l1 k x0 x3 x4 (wrap64 (x5 + 1)))) else (none)) else (none))) else (foundryref05_risen.l1 k x0 x3 x4 (wrap64 (x5 + 1)))) else (none)) else (none)) else (none))) else (if 0 ≤ x4 then (if x4 < (x0.length : Int) then (if x3.length < 3518437208883 then (foundryref05_risen.l0 k x0 (x3 ++ [(⟨(rd_T123 x0 x4).f0, (rd_T123 x0 x4).f1⟩ : S123)])) else (none)) else (none)) else (none))
end
def foundryref05_risen.f (k : Nat) (l0 : List (S123)) : Option ((List (S123))) := foundryref05_risen.l0 k l0 ([] : List (S123))
theorem foundryref05_risen.mono_l : ∀ k, (∀ y0 y1, LeO (foundryref05_risen.l0 k y0 y1) (foundryref05_risen.l0 (k + 1) y0 y1)) ∧ (∀ y0 y1 y2 y3, LeO (foundryref05_risen.l1 k y0 y1 y2 y3) (foundryref05_risen.l1 (k + 1) y0 y1 y2 y3))
  | 0 => ⟨fun _ _ r h => by simp [foundryref05_risen.l0] at h, fun _ _ _ _ r h => by simp [foundryref05_risen.l1] at h⟩
  | k + 1 => by
    obtain ⟨ih0, ih1⟩ := foundryref05_risen.mono_l k
    refine ⟨?_, ?_⟩
    · intro y0 y1
      unfold foundryref05_risen.l0
      repeat' first
      | (with_reducible exact ih0 _ _)
      | (with_reducible exact ih1 _ _ _ _)
      | (with_reducible exact LeO.refl _)
      | (with_reducible exact LeO.none _)
      | (with_reducible refine LeO.ite ?_ ?_)
      | (with_reducible refine LeO.bind ?_ (fun _ => ?_))
      | exact ih0 _ _
      | exact ih1 _ _ _ _
      | exact LeO.none _
      | refine LeO.ite ?_ ?_
      | refine LeO.bind ?_ (fun _ => ?_)
    · intro y0 y1 y2 y3
      unfold foundryref05_risen.l1
      repeat' first
      | (with_reducible exact ih0 _ _)
      | (with_reducible exact ih1 _ _ _ _)
      | (with_reducible exact LeO.refl _)
      | (with_reducible exact LeO.none _)
      | (with_reducible refine LeO.ite ?_ ?_)
      | (with_reducible refine LeO.bind ?_ (fun _ => ?_))
      | exact ih0 _ _
      | exact ih1 _ _ _ _
      | exact LeO.none _
      | refine LeO.ite ?_ ?_
      | refine LeO.bind ?_ (fun _ => ?_)
theorem foundryref05_risen.mono : ∀ a0 k, LeO (foundryref05_risen.f k a0) (foundryref05_risen.f (k + 1) a0) := by
  intro a0 k
  obtain ⟨ih0, ih1⟩ := foundryref05_risen.mono_l k
  unfold foundryref05_risen.f
  repeat' first
      | (with_reducible exact ih0 _ _)
      | (with_reducible exact ih1 _ _ _ _)
      | (with_reducible exact LeO.refl _)
      | (with_reducible exact LeO.none _)
      | (with_reducible refine LeO.ite ?_ ?_)
      | (with_reducible refine LeO.bind ?_ (fun _ => ?_))
      | exact ih0 _ _
      | exact ih1 _ _ _ _
      | exact LeO.none _
      | refine LeO.ite ?_ ?_
      | refine LeO.bind ?_ (fun _ => ?_)
set_option maxHeartbeats 8000000 in
set_option maxRecDepth 100000 in
theorem foundryref05_risen.calls (k : Nat) (P0_ : Nat → Prop) (A0 : Option Addr) (c0 : Nat) (l0 : List (S123)) (r : List (S123)) (w : World) (hs0 : Kd.V k123 123 w w.heap.size (fun k_ => P0_ k_) (.slice A0 l0.length c0) l0) (h : foundryref05_risen.f k l0 = some r) :
    Calls Try.prog 114 #[.slice A0 l0.length c0] w fun e w' => ∃ v0_ : Value, e = .returned (v0_) ∧ Kd.N k123 123 w' w.heap.size (fun k_ => (P0_ k_ ∨ w.heap.size ≤ k_)) v0_ r ∧ Below w.heap.size w w' := by
  have hu123 := Try.underlying123
  have HO0 := Aside0.mk (show Kd.V k123 123 w w.heap.size (fun k_ => (P0_ k_ ∨ w.heap.size ≤ k_)) (.slice A0 l0.length c0) l0 from Kd.V_mono hs0 (fun k_ hk => .inl hk))
  have HB := Aside0.mk (Below.refl w.heap.size w)
  have H : (foundryref05_risen.l0 k l0 ([] : List (S123))) = some r := h
  clear h
  have H' := Aside0.mk H
  clear H
  go_enter Try.func114, Try.ntmps114
  go_wp2
  repeat (go_quiet (fail); try go_wp2)
  go_loopg [3] k (fun kq v3 w' => ∃ (x3_1 : List (S123)), Aside0 (foundryref05_risen.l0 kq l0 x3_1 = some r) ∧ Aside0 (kq ≤ k) ∧ Aside0 (Kd.V k123 123 w' w.heap.size (fun k_ => (P0_ k_ ∨ w.heap.size ≤ k_) ∧ some k_ ≠ (v3 : Value).ownBlock) (.slice A0 l0.length c0) l0) ∧ Aside0 (Kd.N k123 123 w' w.heap.size (fun k_ => (P0_ k_ ∨ w.heap.size ≤ k_)) v3 x3_1) ∧ Aside0 (Below w.heap.size w w'))
  case atStart => exact ⟨(([] : List (S123))), H', ⟨Nat.le_refl _⟩, ⟨by (with_reducible repeat (first | apply Kd.V_alloc | apply Kd.V_drewN | apply Kd.V_drew)); exact Kd.V_mono HO0.out (fun _ hk => ⟨hk, (by simp [Value.ownBlock])⟩)⟩, ⟨by first | exact Kd.S_nil _ _ _ _ _ | exact Kd.N_nil _ _ _ _ _ | exact Kd.V_nil _ _ _ _ _ | exact Kd.Q_nil _ _ _ _ _ | exact Kd.R_nil _ _ _ _ _⟩, ⟨by repeat (first | (with_reducible first | exact HB.out | apply below_alloc | apply pw_below_drewN | apply below_drew1) | exact HB.out)⟩⟩
  case round =>
    clear H'
    try clear c1
    obtain ⟨x3_1, HA, HK1, HO_0, HO_3, HB⟩ := hrel
    cases gk with
    | zero => exact absurd HA.out (by simp [foundryref05_risen.l0])
    | succ k1 =>
      have H := HA.out
      clear HA
      simp only [foundryref05_risen.l0] at H
      by_cases c2 : (x3_1.length : Int) < (l0.length : Int)
      · rw [if_pos c2] at H
        have c2b0 : decide ((x3_1.length : Int) < (l0.length : Int)) = true := decide_eq_true c2
        have c2b1 : decide (x3_1.length < l0.length) = true := decide_eq_true (Int.ofNat_lt.mp c2)
        clear c2
        have H' := Aside0.mk H
        clear H
        obtain ⟨Ao3, co3, eo3⟩ := Kd.N_slice HO_3.out
        subst eo3
        go_wp2
        repeat (go_quiet (fail); try go_wp2)
        go_loopg [4, 5] k1 (fun kq v4 v5 w' => ∃ (x4_2 : Int) (x5_2 : Int), v4 = .int .i64 x4_2 ∧ v5 = .int .i64 x5_2 ∧ Aside0 (foundryref05_risen.l1 kq l0 x3_1 x4_2 x5_2 = some r) ∧ Aside0 (kq ≤ k1) ∧ Aside0 (Kd.V k123 123 w' w.heap.size (fun k_ => (P0_ k_ ∨ w.heap.size ≤ k_) ∧ some k_ ≠ ((.slice Ao3 x3_1.length co3) : Value).ownBlock) (.slice A0 l0.length c0) l0) ∧ Aside0 (Kd.N k123 123 w' w.heap.size (fun k_ => (P0_ k_ ∨ w.heap.size ≤ k_)) (.slice Ao3 x3_1.length co3) x3_1) ∧ Aside0 (Below w.heap.size w w'))
        case atStart => exact ⟨((-1)), (0), (by first | rfl | (simp; done) | (simp [*]; done)), (by first | rfl | (simp; done) | (simp [*]; done)), H', ⟨Nat.le_refl _⟩, ⟨by (with_reducible repeat (first | apply Kd.V_alloc | apply Kd.V_drewN | apply Kd.V_drew)); exact HO_0.out⟩, ⟨by (with_reducible repeat (first | apply Kd.N_alloc | apply Kd.N_drewN | apply Kd.N_drew)); exact HO_3.out⟩, ⟨by repeat (first | (with_reducible first | exact HB.out | apply below_alloc | apply pw_below_drewN | apply below_drew1) | exact HB.out)⟩⟩
        case round =>
          clear H'
          try clear c1
          try clear c2
          try clear c2b0
          try clear c2b1
          try clear p2
          obtain ⟨x4_2, x5_2, rfl, rfl, HA, HK2, HO_0, HO_3, HB⟩ := hrel
          cases gk with
          | zero => exact absurd HA.out (by simp [foundryref05_risen.l1])
          | succ k2 =>
            have H := HA.out
            clear HA
            simp only [foundryref05_risen.l1] at H
            by_cases c4 : x5_2 < (l0.length : Int)
            · rw [if_pos c4] at H
              have c4b0 : decide (x5_2 < (l0.length : Int)) = true := decide_eq_true c4
              clear c4
              by_cases c5 : (x3_1.length : Int) = 0
              · rw [if_pos c5] at H
                have c5b0 : ((x3_1.length : Int) == 0) = true := beq_iff_eq.mpr c5
                have c5b1 : ((x3_1.length : Int) != 0) = false := bne_eq_false_iff_eq.mpr c5
                clear c5
                by_cases c6 : x4_2 < 0
                · rw [if_pos c6] at H
                  have c6b0 : decide (x4_2 < 0) = true := decide_eq_true c6
                  clear c6
                  have H' := Aside0.mk H
                  clear H
                  go_wp2
                  repeat (go_quiet (fail); try go_wp2)
                  go_roundg k2
                  case measure => have := HK1.out; have := HK2.out; omega
                  case rel => exact ⟨(x5_2), (wrap64 (x5_2 + 1)), (by first | rfl | (simp; done) | (simp [*]; done)), (by first | rfl | (simp; done) | (simp [*]; done)), H', ⟨by have := HK1.out; have := HK2.out; omega⟩, ⟨by (with_reducible repeat (first | apply Kd.V_alloc | apply Kd.V_drewN | apply Kd.V_drew)); exact HO_0.out⟩, ⟨by (with_reducible repeat (first | apply Kd.N_alloc | apply Kd.N_drewN | apply Kd.N_drew)); exact HO_3.out⟩, ⟨by repeat (first | (with_reducible first | exact HB.out | apply below_alloc | apply pw_below_drewN | apply below_drew1) | exact HB.out)⟩⟩
                · rw [if_neg c6] at H
                  have c6b0 : decide (x4_2 < 0) = false := decide_eq_false c6
                  clear c6
                  by_cases c7 : 0 ≤ x5_2
                  · rw [if_pos c7] at H
                    have c7b0 : decide (0 ≤ x5_2) = true := decide_eq_true c7
                    clear c7
                    by_cases c8 : 0 ≤ x4_2
                    · rw [if_pos c8] at H
                      have c8b0 : decide (0 ≤ x4_2) = true := decide_eq_true c8
                      clear c8
                      by_cases c9 : x4_2 < (l0.length : Int)
                      · rw [if_pos c9] at H
                        have c9b0 : decide (x4_2 < (l0.length : Int)) = true := decide_eq_true c9
                        clear c9
                        by_cases c10 : (Op.bytesLess (((rd_T123 l0 x5_2).f0).toList) (((rd_T123 l0 x4_2).f0).toList)) = true
                        · rw [if_pos c10] at H
                          have c10b0 : (Op.bytesLess (((rd_T123 l0 x5_2).f0).toList) (((rd_T123 l0 x4_2).f0).toList)) = true := c10
                          have c10leq_ := fun (t_ : TypeId) (w_ : World) => run_leq_of (P := Try.prog) c10b0 t_ w_
                          have c10gtr_ := fun (t_ : TypeId) (w_ : World) => run_gtr_of (P := Try.prog) c10b0 t_ w_
                          simp only [Bool.not_true, Bool.not_false] at c10leq_
                          clear c10
                          have H' := Aside0.mk H
                          clear H
                          have p111 : 0 ≤ (x5_2 : Int) := of_decide_eq_true (by first | (with_reducible assumption) | assumption)
                          have q111 : x5_2 < (l0.length : Int) := of_decide_eq_true (by first | (with_reducible assumption) | assumption)
                          obtain ⟨ad111, A111_1, c111_1, e111, hx111_0, hx111_1, hl111_1, hi111_1⟩ := at_T123 (Kd.V_reads' HO_0.out).2.2 x5_2 p111 q111
                          cases e111
                          obtain ⟨ce111, hce111, hMe111, hcc111⟩ := Kd.V_get HO_0.out z123 x5_2 p111 (by first | exact q111 | exact of_decide_eq_true (by first | (with_reducible assumption) | assumption) | (have e_ := (Kd.V_reads' HO_0.out).1; omega))
                          obtain ⟨ua111_1, uc111_1, rfl, ul111_1, ge111_1⟩ := k123_openF hMe111
                          have hv111_1 := hcc111 1 _ rfl
                          rw [add_field _ _ 1 (by omega)] at hv111_1
                          replace hv111_1 := Option.some.inj (hv111_1.symm.trans hx111_1)
                          injection hv111_1 with hva_ hvn_ hvc_
                          rw [hva_] at ge111_1
                          rw [hvc_] at ul111_1
                          have HL111_1 := Aside0.mk (show Kd.V (Kd.int .u8) 5 _ w.heap.size _ _ ((rd_T123 l0 x5_2).f1) from Kd.V_mk ul111_1 ge111_1)
                          clear hva_ hvn_ hvc_ ge111_1 ul111_1
                          clear hcc111 hce111
                          have HR111_1 := Aside0.mk hi111_1
                          have HC111_1 := Aside0.mk hl111_1
                          clear hi111_1 hl111_1
                          replace p111 := eq_true p111
                          replace q111 := eq_true q111
                          have p112 : 0 ≤ (x4_2 : Int) := of_decide_eq_true (by first | (with_reducible assumption) | assumption)
                          have q112 : x4_2 < (l0.length : Int) := of_decide_eq_true (by first | (with_reducible assumption) | assumption)
                          obtain ⟨ad112, A112_1, c112_1, e112, hx112_0, hx112_1, hl112_1, hi112_1⟩ := at_T123 (Kd.V_reads' HO_0.out).2.2 x4_2 p112 q112
                          obtain rfl : ad111 = ad112 := (by injection e112)
                          obtain ⟨ce112, hce112, hMe112, hcc112⟩ := Kd.V_get HO_0.out z123 x4_2 p112 (by first | exact q112 | exact of_decide_eq_true (by first | (with_reducible assumption) | assumption) | (have e_ := (Kd.V_reads' HO_0.out).1; omega))
                          obtain ⟨ua112_1, uc112_1, rfl, ul112_1, ge112_1⟩ := k123_openF hMe112
                          have hv112_1 := hcc112 1 _ rfl
                          rw [add_field _ _ 1 (by omega)] at hv112_1
                          replace hv112_1 := Option.some.inj (hv112_1.symm.trans hx112_1)
                          injection hv112_1 with hva_ hvn_ hvc_
                          rw [hva_] at ge112_1
                          rw [hvc_] at ul112_1
                          have HL112_1 := Aside0.mk (show Kd.V (Kd.int .u8) 5 _ w.heap.size _ _ ((rd_T123 l0 x4_2).f1) from Kd.V_mk ul112_1 ge112_1)
                          clear hva_ hvn_ hvc_ ge112_1 ul112_1
                          clear hcc112 hce112
                          have HR112_1 := Aside0.mk hi112_1
                          have HC112_1 := Aside0.mk hl112_1
                          clear hi112_1 hl112_1
                          replace p112 := eq_true p112
                          replace q112 := eq_true q112
                          go_wp2
                          repeat (go_quiet (fail); try go_wp2)
                          go_roundg k2
                          case measure => have := HK1.out; have := HK2.out; omega
                          case rel => exact ⟨(x5_2), (wrap64 (x5_2 + 1)), (by first | rfl | (simp; done) | (simp [*]; done)), (by first | rfl | (simp; done) | (simp [*]; done)), H', ⟨by have := HK1.out; have := HK2.out; omega⟩, ⟨by (with_reducible repeat (first | apply Kd.V_alloc | apply Kd.V_drewN | apply Kd.V_drew)); exact HO_0.out⟩, ⟨by (with_reducible repeat (first | apply Kd.N_alloc | apply Kd.N_drewN | apply Kd.N_drew)); exact HO_3.out⟩, ⟨by repeat (first | (with_reducible first | exact HB.out | apply below_alloc | apply pw_below_drewN | apply below_drew1) | exact HB.out)⟩⟩
                        · rw [if_neg c10] at H
                          have c10b0 : (Op.bytesLess (((rd_T123 l0 x5_2).f0).toList) (((rd_T123 l0 x4_2).f0).toList)) = false := by simpa using c10
                          have c10leq_ := fun (t_ : TypeId) (w_ : World) => run_leq_of (P := Try.prog) c10b0 t_ w_
                          have c10gtr_ := fun (t_ : TypeId) (w_ : World) => run_gtr_of (P := Try.prog) c10b0 t_ w_
                          simp only [Bool.not_true, Bool.not_false] at c10leq_
                          clear c10
                          have H' := Aside0.mk H
                          clear H
                          have p111 : 0 ≤ (x5_2 : Int) := of_decide_eq_true (by first | (with_reducible assumption) | assumption)
                          have q111 : x5_2 < (l0.length : Int) := of_decide_eq_true (by first | (with_reducible assumption) | assumption)
                          obtain ⟨ad111, A111_1, c111_1, e111, hx111_0, hx111_1, hl111_1, hi111_1⟩ := at_T123 (Kd.V_reads' HO_0.out).2.2 x5_2 p111 q111
                          cases e111
                          obtain ⟨ce111, hce111, hMe111, hcc111⟩ := Kd.V_get HO_0.out z123 x5_2 p111 (by first | exact q111 | exact of_decide_eq_true (by first | (with_reducible assumption) | assumption) | (have e_ := (Kd.V_reads' HO_0.out).1; omega))
                          obtain ⟨ua111_1, uc111_1, rfl, ul111_1, ge111_1⟩ := k123_openF hMe111
                          have hv111_1 := hcc111 1 _ rfl
                          rw [add_field _ _ 1 (by omega)] at hv111_1
                          replace hv111_1 := Option.some.inj (hv111_1.symm.trans hx111_1)
                          injection hv111_1 with hva_ hvn_ hvc_
                          rw [hva_] at ge111_1
                          rw [hvc_] at ul111_1
                          have HL111_1 := Aside0.mk (show Kd.V (Kd.int .u8) 5 _ w.heap.size _ _ ((rd_T123 l0 x5_2).f1) from Kd.V_mk ul111_1 ge111_1)
                          clear hva_ hvn_ hvc_ ge111_1 ul111_1
                          clear hcc111 hce111
                          have HR111_1 := Aside0.mk hi111_1
                          have HC111_1 := Aside0.mk hl111_1
                          clear hi111_1 hl111_1
                          replace p111 := eq_true p111
                          replace q111 := eq_true q111
                          have p112 : 0 ≤ (x4_2 : Int) := of_decide_eq_true (by first | (with_reducible assumption) | assumption)
                          have q112 : x4_2 < (l0.length : Int) := of_decide_eq_true (by first | (with_reducible assumption) | assumption)
                          obtain ⟨ad112, A112_1, c112_1, e112, hx112_0, hx112_1, hl112_1, hi112_1⟩ := at_T123 (Kd.V_reads' HO_0.out).2.2 x4_2 p112 q112
                          obtain rfl : ad111 = ad112 := (by injection e112)
                          obtain ⟨ce112, hce112, hMe112, hcc112⟩ := Kd.V_get HO_0.out z123 x4_2 p112 (by first | exact q112 | exact of_decide_eq_true (by first | (with_reducible assumption) | assumption) | (have e_ := (Kd.V_reads' HO_0.out).1; omega))
                          obtain ⟨ua112_1, uc112_1, rfl, ul112_1, ge112_1⟩ := k123_openF hMe112
                          have hv112_1 := hcc112 1 _ rfl
                          rw [add_field _ _ 1 (by omega)] at hv112_1
                          replace hv112_1 := Option.some.inj (hv112_1.symm.trans hx112_1)
                          injection hv112_1 with hva_ hvn_ hvc_
                          rw [hva_] at ge112_1
                          rw [hvc_] at ul112_1
                          have HL112_1 := Aside0.mk (show Kd.V (Kd.int .u8) 5 _ w.heap.size _ _ ((rd_T123 l0 x4_2).f1) from Kd.V_mk ul112_1 ge112_1)
                          clear hva_ hvn_ hvc_ ge112_1 ul112_1
                          clear hcc112 hce112
                          have HR112_1 := Aside0.mk hi112_1
                          have HC112_1 := Aside0.mk hl112_1
                          clear hi112_1 hl112_1
                          replace p112 := eq_true p112
                          replace q112 := eq_true q112
                          go_wp2
                          repeat (go_quiet (fail); try go_wp2)
                          go_roundg k2
                          case measure => have := HK1.out; have := HK2.out; omega
                          case rel => exact ⟨(x4_2), (wrap64 (x5_2 + 1)), (by first | rfl | (simp; done) | (simp [*]; done)), (by first | rfl | (simp; done) | (simp [*]; done)), H', ⟨by have := HK1.out; have := HK2.out; omega⟩, ⟨by (with_reducible repeat (first | apply Kd.V_alloc | apply Kd.V_drewN | apply Kd.V_drew)); exact HO_0.out⟩, ⟨by (with_reducible repeat (first | apply Kd.N_alloc | apply Kd.N_drewN | apply Kd.N_drew)); exact HO_3.out⟩, ⟨by repeat (first | (with_reducible first | exact HB.out | apply below_alloc | apply pw_below_drewN | apply below_drew1) | exact HB.out)⟩⟩
                      · rw [if_neg c9] at H
                        exact absurd H (by simp)
                    · rw [if_neg c8] at H
                      exact absurd H (by simp)
                  · rw [if_neg c7] at H
                    exact absurd H (by simp)
              · rw [if_neg c5] at H
                have c5b0 : ((x3_1.length : Int) == 0) = false := beq_eq_false_iff_ne.mpr c5
                have c5b1 : ((x3_1.length : Int) != 0) = true := bne_iff_ne.mpr c5
                have c5b2 : ¬ (x3_1 = []) := fun h_ => c5 (by rw [h_]; rfl)
                by_cases c11 : 0 ≤ x5_2
                · rw [if_pos c11] at H
                  have c11b0 : decide (0 ≤ x5_2) = true := decide_eq_true c11
                  clear c11
                  obtain ⟨ji12, hji12⟩ : ∃ j_ : Int, (wrap64 ((x3_1.length : Int) - 1)) = j_ := ⟨_, rfl⟩
                  replace H : (if 0 ≤ (ji12) then (if (ji12) < (x3_1.length : Int) then (if (Op.bytesLess (((rd_T123 x3_1 (ji12)).f0).toList) (((rd_T123 l0 x5_2).f0).toList)) = true then (if x4_2 < 0 then (foundryref05_risen.l1 k2 l0 x3_1 x5_2 (wrap64 (x5_2 + 1))) else (if 0 ≤ x4_2 then (if x4_2 < (l0.length : Int) then (if (Op.bytesLess (((rd_T123 l0 x5_2).f0).toList) (((rd_T123 l0 x4_2).f0).toList)) = true then (foundryref05_risen.l1 k2 l0 x3_1 x5_2 (wrap64 (x5_2 + 1))) else (foundryref05_risen.l1 k2 l0 x3_1 x4_2 (wrap64 (x5_2 + 1)))) else (none)) else (none))) else (foundryref05_risen.l1 k2 l0 x3_1 x4_2 (wrap64 (x5_2 + 1)))) else (none)) else (none)) = some r := by first | (rw [hji12] at H; exact H) | (simp only [hji12] at H ⊢; exact H)
                  have hji12w : (IntKind.i64.wrap ((x3_1.length : Int) - 1)) = ji12 := (i64_w _).trans hji12
                  by_cases c13 : 0 ≤ (ji12)
                  · rw [if_pos c13] at H
                    have c13b0 : decide (0 ≤ (ji12)) = true := decide_eq_true c13
                    clear c13
                    by_cases c14 : (ji12) < (x3_1.length : Int)
                    · rw [if_pos c14] at H
                      have c14b0 : decide ((ji12) < (x3_1.length : Int)) = true := decide_eq_true c14
                      clear c14
                      by_cases c15 : (Op.bytesLess (((rd_T123 x3_1 (ji12)).f0).toList) (((rd_T123 l0 x5_2).f0).toList)) = true
                      · rw [if_pos c15] at H
                        have c15b0 : (Op.bytesLess (((rd_T123 x3_1 (ji12)).f0).toList) (((rd_T123 l0 x5_2).f0).toList)) = true := c15
                        have c15leq_ := fun (t_ : TypeId) (w_ : World) => run_leq_of (P := Try.prog) c15b0 t_ w_
                        have c15gtr_ := fun (t_ : TypeId) (w_ : World) => run_gtr_of (P := Try.prog) c15b0 t_ w_
                        simp only [Bool.not_true, Bool.not_false] at c15leq_
                        clear c15
                        by_cases c16 : x4_2 < 0
                        · rw [if_pos c16] at H
                          have c16b0 : decide (x4_2 < 0) = true := decide_eq_true c16
                          clear c16
                          have H' := Aside0.mk H
                          clear H
                          have p113 : 0 ≤ (x5_2 : Int) := of_decide_eq_true (by first | (with_reducible assumption) | assumption)
                          have q113 : x5_2 < (l0.length : Int) := of_decide_eq_true (by first | (with_reducible assumption) | assumption)
                          obtain ⟨ad113, A113_1, c113_1, e113, hx113_0, hx113_1, hl113_1, hi113_1⟩ := at_T123 (Kd.V_reads' HO_0.out).2.2 x5_2 p113 q113
                          cases e113
                          obtain ⟨ce113, hce113, hMe113, hcc113⟩ := Kd.V_get HO_0.out z123 x5_2 p113 (by first | exact q113 | exact of_decide_eq_true (by first | (with_reducible assumption) | assumption) | (have e_ := (Kd.V_reads' HO_0.out).1; omega))
                          obtain ⟨ua113_1, uc113_1, rfl, ul113_1, ge113_1⟩ := k123_openF hMe113
                          have hv113_1 := hcc113 1 _ rfl
                          rw [add_field _ _ 1 (by omega)] at hv113_1
                          replace hv113_1 := Option.some.inj (hv113_1.symm.trans hx113_1)
                          injection hv113_1 with hva_ hvn_ hvc_
                          rw [hva_] at ge113_1
                          rw [hvc_] at ul113_1
                          have HL113_1 := Aside0.mk (show Kd.V (Kd.int .u8) 5 _ w.heap.size _ _ ((rd_T123 l0 x5_2).f1) from Kd.V_mk ul113_1 ge113_1)
                          clear hva_ hvn_ hvc_ ge113_1 ul113_1
                          clear hcc113 hce113
                          have HR113_1 := Aside0.mk hi113_1
                          have HC113_1 := Aside0.mk hl113_1
                          clear hi113_1 hl113_1
                          replace p113 := eq_true p113
                          replace q113 := eq_true q113
                          have p114 : 0 ≤ ((ji12) : Int) := of_decide_eq_true (by first | (with_reducible assumption) | assumption)
                          have q114 : (ji12) < (x3_1.length : Int) := of_decide_eq_true (by first | (with_reducible assumption) | assumption)
                          obtain ⟨ad114, A114_1, c114_1, e114, hx114_0, hx114_1, hl114_1, hi114_1⟩ := at_T123 (Kd.N_reads' HO_3.out).2.2 (ji12) p114 q114
                          cases e114
                          obtain ⟨ce114, hce114, hMe114, hcc114⟩ := Kd.N_get HO_3.out z123 (ji12) p114 (by first | exact q114 | exact of_decide_eq_true (by first | (with_reducible assumption) | assumption) | (have e_ := (Kd.N_reads' HO_3.out).1; omega))
                          obtain ⟨ua114_1, uc114_1, rfl, ul114_1, ge114_1⟩ := k123_openF hMe114
                          have hv114_1 := hcc114 1 _ rfl
                          rw [add_field _ _ 1 (by omega)] at hv114_1
                          replace hv114_1 := Option.some.inj (hv114_1.symm.trans hx114_1)
                          injection hv114_1 with hva_ hvn_ hvc_
                          rw [hva_] at ge114_1
                          rw [hvc_] at ul114_1
                          have HL114_1 := Aside0.mk (show Kd.V (Kd.int .u8) 5 _ w.heap.size _ _ ((rd_T123 x3_1 (ji12)).f1) from Kd.V_mk ul114_1 ge114_1)
                          clear hva_ hvn_ hvc_ ge114_1 ul114_1
                          clear hcc114 hce114
                          have HR114_1 := Aside0.mk hi114_1
                          have HC114_1 := Aside0.mk hl114_1
                          clear hi114_1 hl114_1
                          replace p114 := eq_true p114
                          replace q114 := eq_true q114
                          go_wp2
                          repeat (go_quiet (fail); try go_wp2)
                          go_roundg k2
                          case measure => have := HK1.out; have := HK2.out; omega
                          case rel => exact ⟨(x5_2), (wrap64 (x5_2 + 1)), (by first | rfl | (simp; done) | (simp [*]; done)), (by first | rfl | (simp; done) | (simp [*]; done)), H', ⟨by have := HK1.out; have := HK2.out; omega⟩, ⟨by (with_reducible repeat (first | apply Kd.V_alloc | apply Kd.V_drewN | apply Kd.V_drew)); exact HO_0.out⟩, ⟨by (with_reducible repeat (first | apply Kd.N_alloc | apply Kd.N_drewN | apply Kd.N_drew)); exact HO_3.out⟩, ⟨by repeat (first | (with_reducible first | exact HB.out | apply below_alloc | apply pw_below_drewN | apply below_drew1) | exact HB.out)⟩⟩
                        · rw [if_neg c16] at H
                          have c16b0 : decide (x4_2 < 0) = false := decide_eq_false c16
                          clear c16
                          by_cases c17 : 0 ≤ x4_2
                          · rw [if_pos c17] at H
                            have c17b0 : decide (0 ≤ x4_2) = true := decide_eq_true c17
                            clear c17
                            by_cases c18 : x4_2 < (l0.length : Int)
                            · rw [if_pos c18] at H
                              have c18b0 : decide (x4_2 < (l0.length : Int)) = true := decide_eq_true c18
                              clear c18
                              by_cases c19 : (Op.bytesLess (((rd_T123 l0 x5_2).f0).toList) (((rd_T123 l0 x4_2).f0).toList)) = true
                              · rw [if_pos c19] at H
                                have c19b0 : (Op.bytesLess (((rd_T123 l0 x5_2).f0).toList) (((rd_T123 l0 x4_2).f0).toList)) = true := c19
                                have c19leq_ := fun (t_ : TypeId) (w_ : World) => run_leq_of (P := Try.prog) c19b0 t_ w_
                                have c19gtr_ := fun (t_ : TypeId) (w_ : World) => run_gtr_of (P := Try.prog) c19b0 t_ w_
                                simp only [Bool.not_true, Bool.not_false] at c19leq_
                                clear c19
                                have H' := Aside0.mk H
                                clear H
                                have p113 : 0 ≤ (x5_2 : Int) := of_decide_eq_true (by first | (with_reducible assumption) | assumption)
                                have q113 : x5_2 < (l0.length : Int) := of_decide_eq_true (by first | (with_reducible assumption) | assumption)
                                obtain ⟨ad113, A113_1, c113_1, e113, hx113_0, hx113_1, hl113_1, hi113_1⟩ := at_T123 (Kd.V_reads' HO_0.out).2.2 x5_2 p113 q113
                                cases e113
                                obtain ⟨ce113, hce113, hMe113, hcc113⟩ := Kd.V_get HO_0.out z123 x5_2 p113 (by first | exact q113 | exact of_decide_eq_true (by first | (with_reducible assumption) | assumption) | (have e_ := (Kd.V_reads' HO_0.out).1; omega))
                                obtain ⟨ua113_1, uc113_1, rfl, ul113_1, ge113_1⟩ := k123_openF hMe113
                                have hv113_1 := hcc113 1 _ rfl
                                rw [add_field _ _ 1 (by omega)] at hv113_1
                                replace hv113_1 := Option.some.inj (hv113_1.symm.trans hx113_1)
                                injection hv113_1 with hva_ hvn_ hvc_
                                rw [hva_] at ge113_1
                                rw [hvc_] at ul113_1
                                have HL113_1 := Aside0.mk (show Kd.V (Kd.int .u8) 5 _ w.heap.size _ _ ((rd_T123 l0 x5_2).f1) from Kd.V_mk ul113_1 ge113_1)
                                clear hva_ hvn_ hvc_ ge113_1 ul113_1
                                clear hcc113 hce113
                                have HR113_1 := Aside0.mk hi113_1
                                have HC113_1 := Aside0.mk hl113_1
                                clear hi113_1 hl113_1
                                replace p113 := eq_true p113
                                replace q113 := eq_true q113
                                have p114 : 0 ≤ ((ji12) : Int) := of_decide_eq_true (by first | (with_reducible assumption) | assumption)
                                have q114 : (ji12) < (x3_1.length : Int) := of_decide_eq_true (by first | (with_reducible assumption) | assumption)
                                obtain ⟨ad114, A114_1, c114_1, e114, hx114_0, hx114_1, hl114_1, hi114_1⟩ := at_T123 (Kd.N_reads' HO_3.out).2.2 (ji12) p114 q114
                                cases e114
                                obtain ⟨ce114, hce114, hMe114, hcc114⟩ := Kd.N_get HO_3.out z123 (ji12) p114 (by first | exact q114 | exact of_decide_eq_true (by first | (with_reducible assumption) | assumption) | (have e_ := (Kd.N_reads' HO_3.out).1; omega))
                                obtain ⟨ua114_1, uc114_1, rfl, ul114_1, ge114_1⟩ := k123_openF hMe114
                                have hv114_1 := hcc114 1 _ rfl
                                rw [add_field _ _ 1 (by omega)] at hv114_1
                                replace hv114_1 := Option.some.inj (hv114_1.symm.trans hx114_1)
                                injection hv114_1 with hva_ hvn_ hvc_
                                rw [hva_] at ge114_1
                                rw [hvc_] at ul114_1
                                have HL114_1 := Aside0.mk (show Kd.V (Kd.int .u8) 5 _ w.heap.size _ _ ((rd_T123 x3_1 (ji12)).f1) from Kd.V_mk ul114_1 ge114_1)
                                clear hva_ hvn_ hvc_ ge114_1 ul114_1
                                clear hcc114 hce114
                                have HR114_1 := Aside0.mk hi114_1
                                have HC114_1 := Aside0.mk hl114_1
                                clear hi114_1 hl114_1
                                replace p114 := eq_true p114
                                replace q114 := eq_true q114
                                have p115 : 0 ≤ (x5_2 : Int) := of_decide_eq_true (by first | (with_reducible assumption) | assumption)
                                have q115 : x5_2 < (l0.length : Int) := of_decide_eq_true (by first | (with_reducible assumption) | assumption)
                                obtain ⟨ad115, A115_1, c115_1, e115, hx115_0, hx115_1, hl115_1, hi115_1⟩ := at_T123 (Kd.V_reads' HO_0.out).2.2 x5_2 p115 q115
                                obtain rfl : ad113 = ad115 := (by injection e115)
                                obtain ⟨ce115, hce115, hMe115, hcc115⟩ := Kd.V_get HO_0.out z123 x5_2 p115 (by first | exact q115 | exact of_decide_eq_true (by first | (with_reducible assumption) | assumption) | (have e_ := (Kd.V_reads' HO_0.out).1; omega))
                                obtain ⟨ua115_1, uc115_1, rfl, ul115_1, ge115_1⟩ := k123_openF hMe115
                                have hv115_1 := hcc115 1 _ rfl
                                rw [add_field _ _ 1 (by omega)] at hv115_1
                                replace hv115_1 := Option.some.inj (hv115_1.symm.trans hx115_1)
                                injection hv115_1 with hva_ hvn_ hvc_
                                rw [hva_] at ge115_1
                                rw [hvc_] at ul115_1
                                have HL115_1 := Aside0.mk (show Kd.V (Kd.int .u8) 5 _ w.heap.size _ _ ((rd_T123 l0 x5_2).f1) from Kd.V_mk ul115_1 ge115_1)
                                clear hva_ hvn_ hvc_ ge115_1 ul115_1
                                clear hcc115 hce115
                                have HR115_1 := Aside0.mk hi115_1
                                have HC115_1 := Aside0.mk hl115_1
                                clear hi115_1 hl115_1
                                replace p115 := eq_true p115
                                replace q115 := eq_true q115
                                have ea_ := Option.some.inj (hx113_1.symm.trans hx115_1)
                                injection ea_ with ea_ en_ ec_
                                subst ea_
                                subst ec_
                                clear en_
                                have p116 : 0 ≤ (x4_2 : Int) := of_decide_eq_true (by first | (with_reducible assumption) | assumption)
                                have q116 : x4_2 < (l0.length : Int) := of_decide_eq_true (by first | (with_reducible assumption) | assumption)
                                obtain ⟨ad116, A116_1, c116_1, e116, hx116_0, hx116_1, hl116_1, hi116_1⟩ := at_T123 (Kd.V_reads' HO_0.out).2.2 x4_2 p116 q116
                                obtain rfl : ad113 = ad116 := (by injection e116)
                                obtain ⟨ce116, hce116, hMe116, hcc116⟩ := Kd.V_get HO_0.out z123 x4_2 p116 (by first | exact q116 | exact of_decide_eq_true (by first | (with_reducible assumption) | assumption) | (have e_ := (Kd.V_reads' HO_0.out).1; omega))
                                obtain ⟨ua116_1, uc116_1, rfl, ul116_1, ge116_1⟩ := k123_openF hMe116
                                have hv116_1 := hcc116 1 _ rfl
                                rw [add_field _ _ 1 (by omega)] at hv116_1
                                replace hv116_1 := Option.some.inj (hv116_1.symm.trans hx116_1)
                                injection hv116_1 with hva_ hvn_ hvc_
                                rw [hva_] at ge116_1
                                rw [hvc_] at ul116_1
                                have HL116_1 := Aside0.mk (show Kd.V (Kd.int .u8) 5 _ w.heap.size _ _ ((rd_T123 l0 x4_2).f1) from Kd.V_mk ul116_1 ge116_1)
                                clear hva_ hvn_ hvc_ ge116_1 ul116_1
                                clear hcc116 hce116
                                have HR116_1 := Aside0.mk hi116_1
                                have HC116_1 := Aside0.mk hl116_1
                                clear hi116_1 hl116_1
                                replace p116 := eq_true p116
                                replace q116 := eq_true q116
                                go_wp2
                                repeat (go_quiet (fail); try go_wp2)
                                go_roundg k2
                                case measure => have := HK1.out; have := HK2.out; omega
                                case rel => exact ⟨(x5_2), (wrap64 (x5_2 + 1)), (by first | rfl | (simp; done) | (simp [*]; done)), (by first | rfl | (simp; done) | (simp [*]; done)), H', ⟨by have := HK1.out; have := HK2.out; omega⟩, ⟨by (with_reducible repeat (first | apply Kd.V_alloc | apply Kd.V_drewN | apply Kd.V_drew)); exact HO_0.out⟩, ⟨by (with_reducible repeat (first | apply Kd.N_alloc | apply Kd.N_drewN | apply Kd.N_drew)); exact HO_3.out⟩, ⟨by repeat (first | (with_reducible first | exact HB.out | apply below_alloc | apply pw_below_drewN | apply below_drew1) | exact HB.out)⟩⟩
                              · rw [if_neg c19] at H
                                have c19b0 : (Op.bytesLess (((rd_T123 l0 x5_2).f0).toList) (((rd_T123 l0 x4_2).f0).toList)) = false := by simpa using c19
                                have c19leq_ := fun (t_ : TypeId) (w_ : World) => run_leq_of (P := Try.prog) c19b0 t_ w_
                                have c19gtr_ := fun (t_ : TypeId) (w_ : World) => run_gtr_of (P := Try.prog) c19b0 t_ w_
                                simp only [Bool.not_true, Bool.not_false] at c19leq_
                                clear c19
                                have H' := Aside0.mk H
                                clear H
                                have p113 : 0 ≤ (x5_2 : Int) := of_decide_eq_true (by first | (with_reducible assumption) | assumption)
                                have q113 : x5_2 < (l0.length : Int) := of_decide_eq_true (by first | (with_reducible assumption) | assumption)
                                obtain ⟨ad113, A113_1, c113_1, e113, hx113_0, hx113_1, hl113_1, hi113_1⟩ := at_T123 (Kd.V_reads' HO_0.out).2.2 x5_2 p113 q113
                                cases e113
                                obtain ⟨ce113, hce113, hMe113, hcc113⟩ := Kd.V_get HO_0.out z123 x5_2 p113 (by first | exact q113 | exact of_decide_eq_true (by first | (with_reducible assumption) | assumption) | (have e_ := (Kd.V_reads' HO_0.out).1; omega))
                                obtain ⟨ua113_1, uc113_1, rfl, ul113_1, ge113_1⟩ := k123_openF hMe113
                                have hv113_1 := hcc113 1 _ rfl
                                rw [add_field _ _ 1 (by omega)] at hv113_1
                                replace hv113_1 := Option.some.inj (hv113_1.symm.trans hx113_1)
                                injection hv113_1 with hva_ hvn_ hvc_
                                rw [hva_] at ge113_1
                                rw [hvc_] at ul113_1
                                have HL113_1 := Aside0.mk (show Kd.V (Kd.int .u8) 5 _ w.heap.size _ _ ((rd_T123 l0 x5_2).f1) from Kd.V_mk ul113_1 ge113_1)
                                clear hva_ hvn_ hvc_ ge113_1 ul113_1
                                clear hcc113 hce113
                                have HR113_1 := Aside0.mk hi113_1
                                have HC113_1 := Aside0.mk hl113_1
                                clear hi113_1 hl113_1
                                replace p113 := eq_true p113
                                replace q113 := eq_true q113
                                have p114 : 0 ≤ ((ji12) : Int) := of_decide_eq_true (by first | (with_reducible assumption) | assumption)
                                have q114 : (ji12) < (x3_1.length : Int) := of_decide_eq_true (by first | (with_reducible assumption) | assumption)
                                obtain ⟨ad114, A114_1, c114_1, e114, hx114_0, hx114_1, hl114_1, hi114_1⟩ := at_T123 (Kd.N_reads' HO_3.out).2.2 (ji12) p114 q114
                                cases e114
                                obtain ⟨ce114, hce114, hMe114, hcc114⟩ := Kd.N_get HO_3.out z123 (ji12) p114 (by first | exact q114 | exact of_decide_eq_true (by first | (with_reducible assumption) | assumption) | (have e_ := (Kd.N_reads' HO_3.out).1; omega))
                                obtain ⟨ua114_1, uc114_1, rfl, ul114_1, ge114_1⟩ := k123_openF hMe114
                                have hv114_1 := hcc114 1 _ rfl
                                rw [add_field _ _ 1 (by omega)] at hv114_1
                                replace hv114_1 := Option.some.inj (hv114_1.symm.trans hx114_1)
                                injection hv114_1 with hva_ hvn_ hvc_
                                rw [hva_] at ge114_1
                                rw [hvc_] at ul114_1
                                have HL114_1 := Aside0.mk (show Kd.V (Kd.int .u8) 5 _ w.heap.size _ _ ((rd_T123 x3_1 (ji12)).f1) from Kd.V_mk ul114_1 ge114_1)
                                clear hva_ hvn_ hvc_ ge114_1 ul114_1
                                clear hcc114 hce114
                                have HR114_1 := Aside0.mk hi114_1
                                have HC114_1 := Aside0.mk hl114_1
                                clear hi114_1 hl114_1
                                replace p114 := eq_true p114
                                replace q114 := eq_true q114
                                have p115 : 0 ≤ (x5_2 : Int) := of_decide_eq_true (by first | (with_reducible assumption) | assumption)
                                have q115 : x5_2 < (l0.length : Int) := of_decide_eq_true (by first | (with_reducible assumption) | assumption)
                                obtain ⟨ad115, A115_1, c115_1, e115, hx115_0, hx115_1, hl115_1, hi115_1⟩ := at_T123 (Kd.V_reads' HO_0.out).2.2 x5_2 p115 q115
                                obtain rfl : ad113 = ad115 := (by injection e115)
                                obtain ⟨ce115, hce115, hMe115, hcc115⟩ := Kd.V_get HO_0.out z123 x5_2 p115 (by first | exact q115 | exact of_decide_eq_true (by first | (with_reducible assumption) | assumption) | (have e_ := (Kd.V_reads' HO_0.out).1; omega))
                                obtain ⟨ua115_1, uc115_1, rfl, ul115_1, ge115_1⟩ := k123_openF hMe115
                                have hv115_1 := hcc115 1 _ rfl
                                rw [add_field _ _ 1 (by omega)] at hv115_1
                                replace hv115_1 := Option.some.inj (hv115_1.symm.trans hx115_1)
                                injection hv115_1 with hva_ hvn_ hvc_
                                rw [hva_] at ge115_1
                                rw [hvc_] at ul115_1
                                have HL115_1 := Aside0.mk (show Kd.V (Kd.int .u8) 5 _ w.heap.size _ _ ((rd_T123 l0 x5_2).f1) from Kd.V_mk ul115_1 ge115_1)
                                clear hva_ hvn_ hvc_ ge115_1 ul115_1
                                clear hcc115 hce115
                                have HR115_1 := Aside0.mk hi115_1
                                have HC115_1 := Aside0.mk hl115_1
                                clear hi115_1 hl115_1
                                replace p115 := eq_true p115
                                replace q115 := eq_true q115
                                have ea_ := Option.some.inj (hx113_1.symm.trans hx115_1)
                                injection ea_ with ea_ en_ ec_
                                subst ea_
                                subst ec_
                                clear en_
                                have p116 : 0 ≤ (x4_2 : Int) := of_decide_eq_true (by first | (with_reducible assumption) | assumption)
                                have q116 : x4_2 < (l0.length : Int) := of_decide_eq_true (by first | (with_reducible assumption) | assumption)
                                obtain ⟨ad116, A116_1, c116_1, e116, hx116_0, hx116_1, hl116_1, hi116_1⟩ := at_T123 (Kd.V_reads' HO_0.out).2.2 x4_2 p116 q116
                                obtain rfl : ad113 = ad116 := (by injection e116)
                                obtain ⟨ce116, hce116, hMe116, hcc116⟩ := Kd.V_get HO_0.out z123 x4_2 p116 (by first | exact q116 | exact of_decide_eq_true (by first | (with_reducible assumption) | assumption) | (have e_ := (Kd.V_reads' HO_0.out).1; omega))
                                obtain ⟨ua116_1, uc116_1, rfl, ul116_1, ge116_1⟩ := k123_openF hMe116
                                have hv116_1 := hcc116 1 _ rfl
                                rw [add_field _ _ 1 (by omega)] at hv116_1
                                replace hv116_1 := Option.some.inj (hv116_1.symm.trans hx116_1)
                                injection hv116_1 with hva_ hvn_ hvc_
                                rw [hva_] at ge116_1
                                rw [hvc_] at ul116_1
                                have HL116_1 := Aside0.mk (show Kd.V (Kd.int .u8) 5 _ w.heap.size _ _ ((rd_T123 l0 x4_2).f1) from Kd.V_mk ul116_1 ge116_1)
                                clear hva_ hvn_ hvc_ ge116_1 ul116_1
                                clear hcc116 hce116
                                have HR116_1 := Aside0.mk hi116_1
                                have HC116_1 := Aside0.mk hl116_1
                                clear hi116_1 hl116_1
                                replace p116 := eq_true p116
                                replace q116 := eq_true q116
                                go_wp2
                                repeat (go_quiet (fail); try go_wp2)
                                go_roundg k2
                                case measure => have := HK1.out; have := HK2.out; omega
                                case rel => exact ⟨(x4_2), (wrap64 (x5_2 + 1)), (by first | rfl | (simp; done) | (simp [*]; done)), (by first | rfl | (simp; done) | (simp [*]; done)), H', ⟨by have := HK1.out; have := HK2.out; omega⟩, ⟨by (with_reducible repeat (first | apply Kd.V_alloc | apply Kd.V_drewN | apply Kd.V_drew)); exact HO_0.out⟩, ⟨by (with_reducible repeat (first | apply Kd.N_alloc | apply Kd.N_drewN | apply Kd.N_drew)); exact HO_3.out⟩, ⟨by repeat (first | (with_reducible first | exact HB.out | apply below_alloc | apply pw_below_drewN | apply below_drew1) | exact HB.out)⟩⟩
                            · rw [if_neg c18] at H
                              exact absurd H (by simp)
                          · rw [if_neg c17] at H
                            exact absurd H (by simp)
                      · rw [if_neg c15] at H
                        have c15b0 : (Op.bytesLess (((rd_T123 x3_1 (ji12)).f0).toList) (((rd_T123 l0 x5_2).f0).toList)) = false := by simpa using c15
                        have c15leq_ := fun (t_ : TypeId) (w_ : World) => run_leq_of (P := Try.prog) c15b0 t_ w_
                        have c15gtr_ := fun (t_ : TypeId) (w_ : World) => run_gtr_of (P := Try.prog) c15b0 t_ w_
                        simp only [Bool.not_true, Bool.not_false] at c15leq_
                        clear c15
                        have H' := Aside0.mk H
                        clear H
                        have p113 : 0 ≤ (x5_2 : Int) := of_decide_eq_true (by first | (with_reducible assumption) | assumption)
                        have q113 : x5_2 < (l0.length : Int) := of_decide_eq_true (by first | (with_reducible assumption) | assumption)
                        obtain ⟨ad113, A113_1, c113_1, e113, hx113_0, hx113_1, hl113_1, hi113_1⟩ := at_T123 (Kd.V_reads' HO_0.out).2.2 x5_2 p113 q113
                        cases e113
                        obtain ⟨ce113, hce113, hMe113, hcc113⟩ := Kd.V_get HO_0.out z123 x5_2 p113 (by first | exact q113 | exact of_decide_eq_true (by first | (with_reducible assumption) | assumption) | (have e_ := (Kd.V_reads' HO_0.out).1; omega))
                        obtain ⟨ua113_1, uc113_1, rfl, ul113_1, ge113_1⟩ := k123_openF hMe113
                        have hv113_1 := hcc113 1 _ rfl
                        rw [add_field _ _ 1 (by omega)] at hv113_1
                        replace hv113_1 := Option.some.inj (hv113_1.symm.trans hx113_1)
                        injection hv113_1 with hva_ hvn_ hvc_
                        rw [hva_] at ge113_1
                        rw [hvc_] at ul113_1
                        have HL113_1 := Aside0.mk (show Kd.V (Kd.int .u8) 5 _ w.heap.size _ _ ((rd_T123 l0 x5_2).f1) from Kd.V_mk ul113_1 ge113_1)
                        clear hva_ hvn_ hvc_ ge113_1 ul113_1
                        clear hcc113 hce113
                        have HR113_1 := Aside0.mk hi113_1
                        have HC113_1 := Aside0.mk hl113_1
                        clear hi113_1 hl113_1
                        replace p113 := eq_true p113
                        replace q113 := eq_true q113
                        have p114 : 0 ≤ ((ji12) : Int) := of_decide_eq_true (by first | (with_reducible assumption) | assumption)
                        have q114 : (ji12) < (x3_1.length : Int) := of_decide_eq_true (by first | (with_reducible assumption) | assumption)
                        obtain ⟨ad114, A114_1, c114_1, e114, hx114_0, hx114_1, hl114_1, hi114_1⟩ := at_T123 (Kd.N_reads' HO_3.out).2.2 (ji12) p114 q114
                        cases e114
                        obtain ⟨ce114, hce114, hMe114, hcc114⟩ := Kd.N_get HO_3.out z123 (ji12) p114 (by first | exact q114 | exact of_decide_eq_true (by first | (with_reducible assumption) | assumption) | (have e_ := (Kd.N_reads' HO_3.out).1; omega))
                        obtain ⟨ua114_1, uc114_1, rfl, ul114_1, ge114_1⟩ := k123_openF hMe114
                        have hv114_1 := hcc114 1 _ rfl
                        rw [add_field _ _ 1 (by omega)] at hv114_1
                        replace hv114_1 := Option.some.inj (hv114_1.symm.trans hx114_1)
                        injection hv114_1 with hva_ hvn_ hvc_
                        rw [hva_] at ge114_1
                        rw [hvc_] at ul114_1
                        have HL114_1 := Aside0.mk (show Kd.V (Kd.int .u8) 5 _ w.heap.size _ _ ((rd_T123 x3_1 (ji12)).f1) from Kd.V_mk ul114_1 ge114_1)
                        clear hva_ hvn_ hvc_ ge114_1 ul114_1
                        clear hcc114 hce114
                        have HR114_1 := Aside0.mk hi114_1
                        have HC114_1 := Aside0.mk hl114_1
                        clear hi114_1 hl114_1
                        replace p114 := eq_true p114
                        replace q114 := eq_true q114
                        go_wp2
                        repeat (go_quiet (fail); try go_wp2)
                        go_roundg k2
                        case measure => have := HK1.out; have := HK2.out; omega
                        case rel => exact ⟨(x4_2), (wrap64 (x5_2 + 1)), (by first | rfl | (simp; done) | (simp [*]; done)), (by first | rfl | (simp; done) | (simp [*]; done)), H', ⟨by have := HK1.out; have := HK2.out; omega⟩, ⟨by (with_reducible repeat (first | apply Kd.V_alloc | apply Kd.V_drewN | apply Kd.V_drew)); exact HO_0.out⟩, ⟨by (with_reducible repeat (first | apply Kd.N_alloc | apply Kd.N_drewN | apply Kd.N_drew)); exact HO_3.out⟩, ⟨by repeat (first | (with_reducible first | exact HB.out | apply below_alloc | apply pw_below_drewN | apply below_drew1) | exact HB.out)⟩⟩
                    · rw [if_neg c14] at H
                      exact absurd H (by simp)
                  · rw [if_neg c13] at H
                    exact absurd H (by simp)
                · rw [if_neg c11] at H
                  exact absurd H (by simp)
            · rw [if_neg c4] at H
              have c4b0 : decide (x5_2 < (l0.length : Int)) = false := decide_eq_false c4
              clear c4
              by_cases c20 : 0 ≤ x4_2
              · rw [if_pos c20] at H
                have c20b0 : decide (0 ≤ x4_2) = true := decide_eq_true c20
                clear c20
                by_cases c21 : x4_2 < (l0.length : Int)
                · rw [if_pos c21] at H
                  have c21b0 : decide (x4_2 < (l0.length : Int)) = true := decide_eq_true c21
                  clear c21
                  by_cases c22 : x3_1.length < 3518437208883
                  · rw [if_pos c22] at H
                    have LMc22 := Aside0.mk c22
                    clear c22
                    obtain ⟨y118, hy118⟩ : ∃ y_ : List (S123), y_ = (x3_1 ++ [(⟨(rd_T123 l0 x4_2).f0, (rd_T123 l0 x4_2).f1⟩ : S123)]) := ⟨_, rfl⟩
                    replace H : (foundryref05_risen.l0 k2 l0 y118) = some r := by first | (rw [hy118]; with_reducible exact H) | (have H2_ := (Option.bind_some _ _).symm.trans H; rw [hy118]; with_reducible exact H2_) | (have H2_ := (Option.bind_some _ _).symm.trans H; with_reducible exact H2_) | with_reducible exact H | (rw [hy118]; exact H) | exact H
                    have Ny118 := Aside0.mk hy118
                    clear hy118
                    have H' := Aside0.mk H
                    clear H
                    have p117 : 0 ≤ (x4_2 : Int) := of_decide_eq_true (by first | (with_reducible assumption) | assumption)
                    have q117 : x4_2 < (l0.length : Int) := of_decide_eq_true (by first | (with_reducible assumption) | assumption)
                    obtain ⟨ad117, A117_1, c117_1, e117, hx117_0, hx117_1, hl117_1, hi117_1⟩ := at_T123 (Kd.V_reads' HO_0.out).2.2 x4_2 p117 q117
                    cases e117
                    obtain ⟨ce117, hce117, hMe117, hcc117⟩ := Kd.V_get HO_0.out z123 x4_2 p117 (by first | exact q117 | exact of_decide_eq_true (by first | (with_reducible assumption) | assumption) | (have e_ := (Kd.V_reads' HO_0.out).1; omega))
                    obtain ⟨ua117_1, uc117_1, rfl, ul117_1, ge117_1⟩ := k123_openF hMe117
                    have hv117_1 := hcc117 1 _ rfl
                    rw [add_field _ _ 1 (by omega)] at hv117_1
                    replace hv117_1 := Option.some.inj (hv117_1.symm.trans hx117_1)
                    injection hv117_1 with hva_ hvn_ hvc_
                    rw [hva_] at ge117_1
                    rw [hvc_] at ul117_1
                    have HL117_1 := Aside0.mk (show Kd.V (Kd.int .u8) 5 _ w.heap.size _ _ ((rd_T123 l0 x4_2).f1) from Kd.V_mk ul117_1 ge117_1)
                    clear hva_ hvn_ hvc_ ge117_1 ul117_1
                    clear hcc117 hce117
                    have HR117_1 := Aside0.mk hi117_1
                    have HC117_1 := Aside0.mk hl117_1
                    clear hi117_1 hl117_1
                    replace p117 := eq_true p117
                    replace q117 := eq_true q117
                    go_wp2_with (first | ((with_reducible refine gate_builtin (b := .append) (xs := #[.tmp 53, .tmp 58]) rfl ?_); (try (refine gate_guard (by rfl) ?_; dsimp only)); at_builtin; refine Kd.N_append k123 (w0 := w) w.heap.size rfl (.tmp 53) (.tmp 58) 66 123 (.agg #[(.string ⟨#[]⟩), (.slice none 0 0)]) 40 rfl Try.underlying66 info123 rfl (by decide) (by omega) (.slice Ao3 x3_1.length co3) x3_1 (⟨(rd_T123 l0 x4_2).f0, (rd_T123 l0 x4_2).f1⟩ : S123) [.string ((rd_T123 l0 x4_2).f0), .slice A117_1 ((rd_T123 l0 x4_2).f1).length c117_1] (fun k_ => (P0_ k_ ∨ w.heap.size ≤ k_)) (fun k_ => ((fun k_ => (P0_ k_ ∨ w.heap.size ≤ k_))) k_ ∧ some k_ ≠ (.slice Ao3 x3_1.length co3 : Value).ownBlock) rfl rfl ?aP (fun _ hk => hk) ?aF ?aO ?aB ?aS ?aL ?_; (case aP => exact (k123_mkF _ _ (⟨(rd_T123 l0 x4_2).f0, (rd_T123 l0 x4_2).f1⟩ : S123) (Kd.V_reads' (Kd.V_mono (ok' := (fun k_ => ((fun k_ => (P0_ k_ ∨ w.heap.size ≤ k_))) k_ ∧ some k_ ≠ (.slice Ao3 x3_1.length co3 : Value).ownBlock)) (HL117_1.out) (fun k_ hk => ⟨hk.1, hk.2⟩))).2.1 (Kd.V_F (Kd.V_mono (ok' := (fun k_ => ((fun k_ => (P0_ k_ ∨ w.heap.size ≤ k_))) k_ ∧ some k_ ≠ (.slice Ao3 x3_1.length co3 : Value).ownBlock)) (HL117_1.out) (fun k_ hk => ⟨hk.1, hk.2⟩))))); (case aB => exact (by repeat (first | (with_reducible first | exact HB.out | apply below_alloc | apply pw_below_drewN | apply below_drew1) | exact HB.out))); (case aF => exact (fun k_ hk => (.inr (Nat.le_trans (below_size (by repeat (first | (with_reducible first | exact HB.out | apply below_alloc | apply pw_below_drewN | apply below_drew1) | exact HB.out))) hk)))); (case aO => exact (by (with_reducible repeat (first | apply Kd.N_alloc | apply Kd.N_drewN | apply Kd.N_drew)); exact HO_3.out)); (case aS => exact (below_size (by repeat (first | (with_reducible first | exact HB.out | apply below_alloc | apply pw_below_drewN | apply below_drew1) | exact HB.out)))); (case aL => have := LMc22.out; omega); intro v119 w23 ho hb hg hat; rw [← Ny118.out] at ho; have n0_ := Aside0.mk (Kd.V_afterv (ok := (fun k_ => (P0_ k_ ∨ w.heap.size ≤ k_))) (by (with_reducible repeat (first | apply Kd.V_alloc | apply Kd.V_drewN | apply Kd.V_drew)); exact HO_0.out) hg hat); have n1_ := Aside0.mk (Kd.V_afterv (ok := (fun k_ => (P0_ k_ ∨ w.heap.size ≤ k_))) (by (with_reducible repeat (first | apply Kd.V_alloc | apply Kd.V_drewN | apply Kd.V_drew)); exact HL117_1.out) hg hat); have n2_ := Aside0.mk (hb); have n3_ := Aside0.mk (ho); clear HO_0; clear HL117_1; clear HB; clear HO_3; have HO_0 := n0_; have HL117_1 := n1_; have HB := n2_; have HO120 := n3_; clear n0_ n1_ n2_ n3_; clear ho hb hg hat))
                    repeat (go_quiet (first | ((with_reducible refine gate_builtin (b := .append) (xs := #[.tmp 53, .tmp 58]) rfl ?_); (try (refine gate_guard (by rfl) ?_; dsimp only)); at_builtin; refine Kd.N_append k123 (w0 := w) w.heap.size rfl (.tmp 53) (.tmp 58) 66 123 (.agg #[(.string ⟨#[]⟩), (.slice none 0 0)]) 40 rfl Try.underlying66 info123 rfl (by decide) (by omega) (.slice Ao3 x3_1.length co3) x3_1 (⟨(rd_T123 l0 x4_2).f0, (rd_T123 l0 x4_2).f1⟩ : S123) [.string ((rd_T123 l0 x4_2).f0), .slice A117_1 ((rd_T123 l0 x4_2).f1).length c117_1] (fun k_ => (P0_ k_ ∨ w.heap.size ≤ k_)) (fun k_ => ((fun k_ => (P0_ k_ ∨ w.heap.size ≤ k_))) k_ ∧ some k_ ≠ (.slice Ao3 x3_1.length co3 : Value).ownBlock) rfl rfl ?aP (fun _ hk => hk) ?aF ?aO ?aB ?aS ?aL ?_; (case aP => exact (k123_mkF _ _ (⟨(rd_T123 l0 x4_2).f0, (rd_T123 l0 x4_2).f1⟩ : S123) (Kd.V_reads' (Kd.V_mono (ok' := (fun k_ => ((fun k_ => (P0_ k_ ∨ w.heap.size ≤ k_))) k_ ∧ some k_ ≠ (.slice Ao3 x3_1.length co3 : Value).ownBlock)) (HL117_1.out) (fun k_ hk => ⟨hk.1, hk.2⟩))).2.1 (Kd.V_F (Kd.V_mono (ok' := (fun k_ => ((fun k_ => (P0_ k_ ∨ w.heap.size ≤ k_))) k_ ∧ some k_ ≠ (.slice Ao3 x3_1.length co3 : Value).ownBlock)) (HL117_1.out) (fun k_ hk => ⟨hk.1, hk.2⟩))))); (case aB => exact (by repeat (first | (with_reducible first | exact HB.out | apply below_alloc | apply pw_below_drewN | apply below_drew1) | exact HB.out))); (case aF => exact (fun k_ hk => (.inr (Nat.le_trans (below_size (by repeat (first | (with_reducible first | exact HB.out | apply below_alloc | apply pw_below_drewN | apply below_drew1) | exact HB.out))) hk)))); (case aO => exact (by (with_reducible repeat (first | apply Kd.N_alloc | apply Kd.N_drewN | apply Kd.N_drew)); exact HO_3.out)); (case aS => exact (below_size (by repeat (first | (with_reducible first | exact HB.out | apply below_alloc | apply pw_below_drewN | apply below_drew1) | exact HB.out)))); (case aL => have := LMc22.out; omega); intro v119 w23 ho hb hg hat; rw [← Ny118.out] at ho; have n0_ := Aside0.mk (Kd.V_afterv (ok := (fun k_ => (P0_ k_ ∨ w.heap.size ≤ k_))) (by (with_reducible repeat (first | apply Kd.V_alloc | apply Kd.V_drewN | apply Kd.V_drew)); exact HO_0.out) hg hat); have n1_ := Aside0.mk (Kd.V_afterv (ok := (fun k_ => (P0_ k_ ∨ w.heap.size ≤ k_))) (by (with_reducible repeat (first | apply Kd.V_alloc | apply Kd.V_drewN | apply Kd.V_drew)); exact HL117_1.out) hg hat); have n2_ := Aside0.mk (hb); have n3_ := Aside0.mk (ho); clear HO_0; clear HL117_1; clear HB; clear HO_3; have HO_0 := n0_; have HL117_1 := n1_; have HB := n2_; have HO120 := n3_; clear n0_ n1_ n2_ n3_; clear ho hb hg hat)); try go_wp2_with (first | ((with_reducible refine gate_builtin (b := .append) (xs := #[.tmp 53, .tmp 58]) rfl ?_); (try (refine gate_guard (by rfl) ?_; dsimp only)); at_builtin; refine Kd.N_append k123 (w0 := w) w.heap.size rfl (.tmp 53) (.tmp 58) 66 123 (.agg #[(.string ⟨#[]⟩), (.slice none 0 0)]) 40 rfl Try.underlying66 info123 rfl (by decide) (by omega) (.slice Ao3 x3_1.length co3) x3_1 (⟨(rd_T123 l0 x4_2).f0, (rd_T123 l0 x4_2).f1⟩ : S123) [.string ((rd_T123 l0 x4_2).f0), .slice A117_1 ((rd_T123 l0 x4_2).f1).length c117_1] (fun k_ => (P0_ k_ ∨ w.heap.size ≤ k_)) (fun k_ => ((fun k_ => (P0_ k_ ∨ w.heap.size ≤ k_))) k_ ∧ some k_ ≠ (.slice Ao3 x3_1.length co3 : Value).ownBlock) rfl rfl ?aP (fun _ hk => hk) ?aF ?aO ?aB ?aS ?aL ?_; (case aP => exact (k123_mkF _ _ (⟨(rd_T123 l0 x4_2).f0, (rd_T123 l0 x4_2).f1⟩ : S123) (Kd.V_reads' (Kd.V_mono (ok' := (fun k_ => ((fun k_ => (P0_ k_ ∨ w.heap.size ≤ k_))) k_ ∧ some k_ ≠ (.slice Ao3 x3_1.length co3 : Value).ownBlock)) (HL117_1.out) (fun k_ hk => ⟨hk.1, hk.2⟩))).2.1 (Kd.V_F (Kd.V_mono (ok' := (fun k_ => ((fun k_ => (P0_ k_ ∨ w.heap.size ≤ k_))) k_ ∧ some k_ ≠ (.slice Ao3 x3_1.length co3 : Value).ownBlock)) (HL117_1.out) (fun k_ hk => ⟨hk.1, hk.2⟩))))); (case aB => exact (by repeat (first | (with_reducible first | exact HB.out | apply below_alloc | apply pw_below_drewN | apply below_drew1) | exact HB.out))); (case aF => exact (fun k_ hk => (.inr (Nat.le_trans (below_size (by repeat (first | (with_reducible first | exact HB.out | apply below_alloc | apply pw_below_drewN | apply below_drew1) | exact HB.out))) hk)))); (case aO => exact (by (with_reducible repeat (first | apply Kd.N_alloc | apply Kd.N_drewN | apply Kd.N_drew)); exact HO_3.out)); (case aS => exact (below_size (by repeat (first | (with_reducible first | exact HB.out | apply below_alloc | apply pw_below_drewN | apply below_drew1) | exact HB.out)))); (case aL => have := LMc22.out; omega); intro v119 w23 ho hb hg hat; rw [← Ny118.out] at ho; have n0_ := Aside0.mk (Kd.V_afterv (ok := (fun k_ => (P0_ k_ ∨ w.heap.size ≤ k_))) (by (with_reducible repeat (first | apply Kd.V_alloc | apply Kd.V_drewN | apply Kd.V_drew)); exact HO_0.out) hg hat); have n1_ := Aside0.mk (Kd.V_afterv (ok := (fun k_ => (P0_ k_ ∨ w.heap.size ≤ k_))) (by (with_reducible repeat (first | apply Kd.V_alloc | apply Kd.V_drewN | apply Kd.V_drew)); exact HL117_1.out) hg hat); have n2_ := Aside0.mk (hb); have n3_ := Aside0.mk (ho); clear HO_0; clear HL117_1; clear HB; clear HO_3; have HO_0 := n0_; have HL117_1 := n1_; have HB := n2_; have HO120 := n3_; clear n0_ n1_ n2_ n3_; clear ho hb hg hat)))
                    go_roundg k2
                    case measure => have := HK1.out; have := HK2.out; omega
                    case rel => exact ⟨(y118), H', ⟨by have := HK1.out; have := HK2.out; omega⟩, ⟨by (with_reducible repeat (first | apply Kd.V_alloc | apply Kd.V_drewN | apply Kd.V_drew)); exact HO_0.out⟩, ⟨by (with_reducible repeat (first | apply Kd.N_alloc | apply Kd.N_drewN | apply Kd.N_drew)); exact HO120.out⟩, ⟨by repeat (first | (with_reducible first | exact HB.out | apply below_alloc | apply pw_below_drewN | apply below_drew1) | exact HB.out)⟩⟩
                  · rw [if_neg c22] at H
                    exact absurd H (by simp)
                · rw [if_neg c21] at H
                  exact absurd H (by simp)
              · rw [if_neg c20] at H
                exact absurd H (by simp)
      · rw [if_neg c2] at H
        have c2b0 : decide ((x3_1.length : Int) < (l0.length : Int)) = false := decide_eq_false c2
        have c2b1 : decide (x3_1.length < l0.length) = false := decide_eq_false (fun h => c2 (Int.ofNat_lt.mpr h))
        clear c2
        obtain rfl := Option.some.inj H
        obtain ⟨Ao24, co24, eo24⟩ := Kd.N_slice HO_3.out
        subst eo24
        go_wp2
        repeat (go_quiet (fail); try go_wp2)
        go_ret
        exact ⟨_, by first | rfl | (simp [errW_none, errW_some] <;> rfl) | (simp [*, errW_none, errW_some] <;> rfl), by (with_reducible repeat (first | apply Kd.N_alloc | apply Kd.N_drewN | apply Kd.N_drew)); exact HO_3.out, by repeat (first | (with_reducible first | exact HB.out | apply below_alloc | apply pw_below_drewN | apply below_drew1) | exact HB.out)⟩

/-! ### foundryref05_filled: function 85 -/
def foundryref05_filled.l0 : Nat → List Int → Option (List Int)
  | 0, _ => none
  | k + 1, x3 => if ((x3.length : Int) % 4) = 0 then (some x3) else (if x3.length < 140737488355328 then (foundryref05_filled.l0 k (x3 ++ [0])) else (none))
def foundryref05_filled.f (k : Nat) (l0 : List Int) : Option (List Int) := if ([] : List Int).length + l0.length < 140737488355328 then (foundryref05_filled.l0 k (([] : List Int) ++ l0)) else (none)
theorem foundryref05_filled.mono_l : ∀ k, (∀ y0, LeO (foundryref05_filled.l0 k y0) (foundryref05_filled.l0 (k + 1) y0))
  | 0 => fun _ r h => by simp [foundryref05_filled.l0] at h
  | k + 1 => by
    have ih0 := foundryref05_filled.mono_l k
    · intro y0
      unfold foundryref05_filled.l0
      repeat' first
      | (with_reducible exact ih0 _)
      | (with_reducible exact LeO.refl _)
      | (with_reducible exact LeO.none _)
      | (with_reducible refine LeO.ite ?_ ?_)
      | (with_reducible refine LeO.bind ?_ (fun _ => ?_))
      | exact ih0 _
      | exact LeO.none _
      | refine LeO.ite ?_ ?_
      | refine LeO.bind ?_ (fun _ => ?_)
theorem foundryref05_filled.mono : ∀ a0 k, LeO (foundryref05_filled.f k a0) (foundryref05_filled.f (k + 1) a0) := by
  intro a0 k
  have ih0 := foundryref05_filled.mono_l k
  unfold foundryref05_filled.f
  repeat' first
      | (with_reducible exact ih0 _)
      | (with_reducible exact LeO.refl _)
      | (with_reducible exact LeO.none _)
      | (with_reducible refine LeO.ite ?_ ?_)
      | (with_reducible refine LeO.bind ?_ (fun _ => ?_))
      | exact ih0 _
      | exact LeO.none _
      | refine LeO.ite ?_ ?_
      | refine LeO.bind ?_ (fun _ => ?_)
set_option maxHeartbeats 8000000 in
set_option maxRecDepth 100000 in
theorem foundryref05_filled.calls (k : Nat) (A0 : Option Addr) (c0 : Nat) (l0 : List Int) (r : List Int) (w : World) (hr0 : Kd.C (Kd.int .u8) w A0 l0.length l0) (hc0 : l0.length ≤ c0) (h : foundryref05_filled.f k l0 = some r) :
    Calls Try.prog 85 #[.slice A0 l0.length c0] w fun e w' => ∃ v0_ : Value, e = .returned (v0_) ∧ Kd.R (Kd.int .u8) 5 w' w.heap.size (fun _ => True) v0_ r ∧ Below w.heap.size w w' := by
  have HR0 := Aside0.mk hr0
  have HC0 := Aside0.mk hc0
  clear hr0 hc0
  have HB := Aside0.mk (Below.refl w.heap.size w)
  have H : (if ([] : List Int).length + l0.length < 140737488355328 then (foundryref05_filled.l0 k (([] : List Int) ++ l0)) else (none)) = some r := h
  clear h
  by_cases c2 : ([] : List Int).length + l0.length < 140737488355328
  · rw [if_pos c2] at H
    have LMc2 := Aside0.mk c2
    clear c2
    obtain ⟨y121, hy121⟩ : ∃ y_ : List Int, y_ = (([] : List Int) ++ l0) := ⟨_, rfl⟩
    replace H : (foundryref05_filled.l0 k y121) = some r := by first | (rw [hy121]; with_reducible exact H) | (have H2_ := (Option.bind_some _ _).symm.trans H; rw [hy121]; with_reducible exact H2_) | (have H2_ := (Option.bind_some _ _).symm.trans H; with_reducible exact H2_) | with_reducible exact H | (rw [hy121]; exact H) | exact H
    have Ny121 := Aside0.mk hy121
    clear hy121
    have H' := Aside0.mk H
    clear H
    go_enter Try.func85, Try.ntmps85
    go_wp2_with (first | ((with_reducible refine gate_builtin (b := .append) (xs := #[.tmp 4, .tmp 5]) rfl ?_); at_builtin; refine Kd.R_append_rows (Kd.int .u8) (w0 := w) w.heap.size rfl (.tmp 4) (.tmp 5) 26 5 (.int .u8 0) 1 rfl Try.underlying26 info5 rfl (by decide) (by omega) (.slice none 0 0) ([] : List Int) l0 _ _ _ (fun _ => True) (fun _ => False) rfl rfl ?aO ?aR (fun _ _ h => h) (fun _ h => h.elim) ?aF ?aB ?aS ?aL ?_; (case aR => repeat (first | exact HR0.out | (with_reducible refine Kd.C_alloc ?_ _) | (with_reducible refine Kd.C_drewN ?_ _) | (with_reducible refine Kd.C_drew ?_))); (case aB => exact (by repeat (first | (with_reducible first | exact HB.out | apply below_alloc | apply pw_below_drewN | apply below_drew1) | exact HB.out))); (case aF => exact (fun _ _ => trivial)); (case aO => exact ((Kd.R_nil _ _ _ _ (fun _ => True)))); (case aS => exact (below_size (by repeat (first | (with_reducible first | exact HB.out | apply below_alloc | apply pw_below_drewN | apply below_drew1) | exact HB.out)))); (case aL => have := LMc2.out; omega); intro v122 w3 ho hb hg hat; rw [← Ny121.out] at ho; have n0_ := Aside0.mk (hb); have n1_ := Aside0.mk (ho); clear HB; have HB := n0_; have HO123 := n1_; clear n0_ n1_; clear ho hb hg hat))
    go_loopg [3] k (fun kq v3 w' => ∃ (x3_1 : List Int), Aside0 (foundryref05_filled.l0 kq x3_1 = some r) ∧ Aside0 (kq ≤ k) ∧ Aside0 (Kd.R (Kd.int .u8) 5 w' w.heap.size (fun _ => True) v3 x3_1) ∧ Aside0 (Below w.heap.size w w'))
    case atStart => exact ⟨(y121), H', ⟨Nat.le_refl _⟩, ⟨by (with_reducible repeat (first | apply Kd.R_alloc | apply Kd.R_drewN | apply Kd.R_drew)); exact HO123.out⟩, ⟨by repeat (first | (with_reducible first | exact HB.out | apply below_alloc | apply pw_below_drewN | apply below_drew1) | exact HB.out)⟩⟩
    case round =>
      clear H'
      try clear c2
      try clear p2
      obtain ⟨x3_1, HA, HK1, HO_3, HB⟩ := hrel
      cases gk with
      | zero => exact absurd HA.out (by simp [foundryref05_filled.l0])
      | succ k1 =>
        have H := HA.out
        clear HA
        simp only [foundryref05_filled.l0] at H
        by_cases c4 : ((x3_1.length : Int) % 4) = 0
        · rw [if_pos c4] at H
          have c4b0 : (((x3_1.length : Int) % 4) == 0) = true := beq_iff_eq.mpr c4
          have c4b1 : (((x3_1.length : Int) % 4) != 0) = false := bne_eq_false_iff_eq.mpr c4
          clear c4
          obtain rfl := Option.some.inj H
          obtain ⟨Ao5, co5, eo5⟩ := Kd.R_slice HO_3.out
          subst eo5
          go_wp2
          go_ret
          exact ⟨_, by first | rfl | (simp [errW_none, errW_some] <;> rfl) | (simp [*, errW_none, errW_some] <;> rfl), by (with_reducible repeat (first | apply Kd.R_alloc | apply Kd.R_drewN | apply Kd.R_drew)); exact HO_3.out, by repeat (first | (with_reducible first | exact HB.out | apply below_alloc | apply pw_below_drewN | apply below_drew1) | exact HB.out)⟩
        · rw [if_neg c4] at H
          have c4b0 : (((x3_1.length : Int) % 4) == 0) = false := beq_eq_false_iff_ne.mpr c4
          have c4b1 : (((x3_1.length : Int) % 4) != 0) = true := bne_iff_ne.mpr c4
          by_cases c6 : x3_1.length < 140737488355328
          · rw [if_pos c6] at H
            have LMc6 := Aside0.mk c6
            clear c6
            obtain ⟨y124, hy124⟩ : ∃ y_ : List Int, y_ = (x3_1 ++ [0]) := ⟨_, rfl⟩
            replace H : (foundryref05_filled.l0 k1 y124) = some r := by first | (rw [hy124]; with_reducible exact H) | (have H2_ := (Option.bind_some _ _).symm.trans H; rw [hy124]; with_reducible exact H2_) | (have H2_ := (Option.bind_some _ _).symm.trans H; with_reducible exact H2_) | with_reducible exact H | (rw [hy124]; exact H) | exact H
            have Ny124 := Aside0.mk hy124
            clear hy124
            have H' := Aside0.mk H
            clear H
            obtain ⟨Ao7, co7, eo7⟩ := Kd.R_slice HO_3.out
            subst eo7
            go_wp2_with (first | ((with_reducible refine gate_builtin (b := .append) (xs := #[.tmp 11, .tmp 12]) rfl ?_); at_builtin; refine Kd.R_append (Kd.int .u8) (w0 := w) w.heap.size rfl (.tmp 11) (.tmp 12) 26 5 (.int .u8 0) 1 rfl Try.underlying26 info5 rfl (by decide) (by omega) (.slice Ao7 x3_1.length co7) x3_1 0 [.int .u8 0] (fun _ => True) (fun _ => False) rfl rfl ?aP (fun _ hk => hk.elim) ?aF ?aO ?aB ?aS ?aL ?_; (case aP => exact rfl); (case aB => exact (by repeat (first | (with_reducible first | exact HB.out | apply below_alloc | apply pw_below_drewN | apply below_drew1) | exact HB.out))); (case aF => exact (fun _ _ => trivial)); (case aO => exact (by (with_reducible repeat (first | apply Kd.R_alloc | apply Kd.R_drewN | apply Kd.R_drew)); exact HO_3.out)); (case aS => exact (below_size (by repeat (first | (with_reducible first | exact HB.out | apply below_alloc | apply pw_below_drewN | apply below_drew1) | exact HB.out)))); (case aL => have := LMc6.out; omega); intro v125 w8 ho hb hg hat; rw [← Ny124.out] at ho; have n0_ := Aside0.mk (hb); have n1_ := Aside0.mk (ho); clear HB; clear HO_3; have HB := n0_; have HO126 := n1_; clear n0_ n1_; clear ho hb hg hat))
            go_roundg k1
            case measure => have := HK1.out; omega
            case rel => exact ⟨(y124), H', ⟨by have := HK1.out; omega⟩, ⟨by (with_reducible repeat (first | apply Kd.R_alloc | apply Kd.R_drewN | apply Kd.R_drew)); exact HO126.out⟩, ⟨by repeat (first | (with_reducible first | exact HB.out | apply below_alloc | apply pw_below_drewN | apply below_drew1) | exact HB.out)⟩⟩
          · rw [if_neg c6] at H
            exact absurd H (by simp)
  · rw [if_neg c2] at H
    exact absurd H (by simp)

end Go.Proofs.Ytmppdgjnibamlab.PSf
