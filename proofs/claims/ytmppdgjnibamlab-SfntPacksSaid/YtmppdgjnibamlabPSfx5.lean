/- Printed by this session's run of print.py (with contracts of its own taken as given): the functions that these laws reach, their contracts. No condition. -/
import Derived.Test.YtmppdgjnibamlabPSfx0
import Derived.Test.YtmppdgjnibamlabPSfx3
namespace Go.Proofs.Ytmppdgjnibamlab.PSf
open Go.RowKit Go.Proofs.YtmppdgjnibamlabW.PrintWords Go.Proofs.YtmppdgjnibamlabW.PrintLast Go.Proofs.YtmppdgjnibamlabW.PrintMore
attribute [local go_sem] max2_int min2_int max_two min_two max_three min_three max_four min_four   -- for this text's walks alone
set_option linter.unusedVariables false
set_option linter.unusedSimpArgs false

/-! ### foundryref05_Formed: function 43 -/
mutual
def foundryref05_Formed.j0 : Nat → List (S123) → Bool → Option (Bool)
  | 0, _, _ => none
  | k + 1, x0, x12 => if x12 = true then (some false) else (foundryref05_Formed.l0 k x0 0)
def foundryref05_Formed.l0 : Nat → List (S123) → Int → Option (Bool)
  | 0, _, _ => none
  | k + 1, x0, x3 => if x3 < (x0.length : Int) then (if 0 ≤ x3 then ((foundryref04_Good.f k ((rd_T123 x0 x3).f0)).bind fun t166 => (if t166 = true then (foundryref05_Formed.j2 k x0 x3 (decide ((((rd_T123 x0 x3).f1).length : Int) > 1048576))) else (foundryref05_Formed.j2 k x0 x3 true))) else (none)) else (some true)
def foundryref05_Formed.j2 : Nat → List (S123) → Int → Bool → Option (Bool)
  | 0, _, _, _ => none
  | k + 1, x0, x3, x34 => if x34 = true then (some false) else (foundryref05_Formed.l1 k x0 x3 0)
def foundryref05_Formed.l1 : Nat → List (S123) → Int → Int → Option (Bool)
  | 0, _, _, _ => none
  | k + 1, x0, x3, x4 => if x4 < x3 then (if 0 ≤ x4 then (if x4 < (x0.length : Int) then (if 0 ≤ x3 then (if x3 < (x0.length : Int) then (if ((rd_T123 x0 x4).f0).toList = ((rd_T123 x0 x3).f0).toList then (some false) else (foundryref05_Formed.l1 k x0 x3 (wrap64 (x4 + 1)))) else (none)) else (none)) else (none)) else (none)) else (foundryref05_Formed.l0 k x0 (wrap64 (x3 + 1)))
end
def foundryref05_Formed.f (k : Nat) (l0 : List (S123)) : Option (Bool) := if (l0.length : Int) < 1 then (foundryref05_Formed.j0 k l0 true) else (foundryref05_Formed.j0 k l0 (decide ((l0.length : Int) > 32)))
theorem foundryref05_Formed.mono_l : ∀ k, (∀ y0 y1, LeO (foundryref05_Formed.j0 k y0 y1) (foundryref05_Formed.j0 (k + 1) y0 y1)) ∧ (∀ y0 y1, LeO (foundryref05_Formed.l0 k y0 y1) (foundryref05_Formed.l0 (k + 1) y0 y1)) ∧ (∀ y0 y1 y2, LeO (foundryref05_Formed.j2 k y0 y1 y2) (foundryref05_Formed.j2 (k + 1) y0 y1 y2)) ∧ (∀ y0 y1 y2, LeO (foundryref05_Formed.l1 k y0 y1 y2) (foundryref05_Formed.l1 (k + 1) y0 y1 y2))
  | 0 => ⟨fun _ _ r h => by simp [foundryref05_Formed.j0] at h, fun _ _ r h => by simp [foundryref05_Formed.l0] at h, fun _ _ _ r h => by simp [foundryref05_Formed.j2] at h, fun _ _ _ r h => by simp [foundryref05_Formed.l1] at h⟩
  | k + 1 => by
    obtain ⟨ih0, ih1, ih2, ih3⟩ := foundryref05_Formed.mono_l k
    refine ⟨?_, ?_, ?_, ?_⟩
    · intro y0 y1
      unfold foundryref05_Formed.j0
      repeat' first
      | (with_reducible exact ih0 _ _)
      | (with_reducible exact ih1 _ _)
      | (with_reducible exact ih2 _ _ _)
      | (with_reducible exact ih3 _ _ _)
      | (with_reducible exact foundryref04_Good.mono _ _)
      | (with_reducible exact LeO.refl _)
      | (with_reducible exact LeO.none _)
      | (with_reducible refine LeO.ite ?_ ?_)
      | (with_reducible refine LeO.bind ?_ (fun _ => ?_))
      | exact ih0 _ _
      | exact ih1 _ _
      | exact ih2 _ _ _
      | exact ih3 _ _ _
      | exact foundryref04_Good.mono _ _
      | exact LeO.none _
      | refine LeO.ite ?_ ?_
      | refine LeO.bind ?_ (fun _ => ?_)
    · intro y0 y1
      unfold foundryref05_Formed.l0
      repeat' first
      | (with_reducible exact ih0 _ _)
      | (with_reducible exact ih1 _ _)
      | (with_reducible exact ih2 _ _ _)
      | (with_reducible exact ih3 _ _ _)
      | (with_reducible exact foundryref04_Good.mono _ _)
      | (with_reducible exact LeO.refl _)
      | (with_reducible exact LeO.none _)
      | (with_reducible refine LeO.ite ?_ ?_)
      | (with_reducible refine LeO.bind ?_ (fun _ => ?_))
      | exact ih0 _ _
      | exact ih1 _ _
      | exact ih2 _ _ _
      | exact ih3 _ _ _
      | exact foundryref04_Good.mono _ _
      | exact LeO.none _
      | refine LeO.ite ?_ ?_
      | refine LeO.bind ?_ (fun _ => ?_)
    · intro y0 y1 y2
      unfold foundryref05_Formed.j2
      repeat' first
      | (with_reducible exact ih0 _ _)
      | (with_reducible exact ih1 _ _)
      | (with_reducible exact ih2 _ _ _)
      | (with_reducible exact ih3 _ _ _)
      | (with_reducible exact foundryref04_Good.mono _ _)
      | (with_reducible exact LeO.refl _)
      | (with_reducible exact LeO.none _)
      | (with_reducible refine LeO.ite ?_ ?_)
      | (with_reducible refine LeO.bind ?_ (fun _ => ?_))
      | exact ih0 _ _
      | exact ih1 _ _
      | exact ih2 _ _ _
      | exact ih3 _ _ _
      | exact foundryref04_Good.mono _ _
      | exact LeO.none _
      | refine LeO.ite ?_ ?_
      | refine LeO.bind ?_ (fun _ => ?_)
    · intro y0 y1 y2
      unfold foundryref05_Formed.l1
      repeat' first
      | (with_reducible exact ih0 _ _)
      | (with_reducible exact ih1 _ _)
      | (with_reducible exact ih2 _ _ _)
      | (with_reducible exact ih3 _ _ _)
      | (with_reducible exact foundryref04_Good.mono _ _)
      | (with_reducible exact LeO.refl _)
      | (with_reducible exact LeO.none _)
      | (with_reducible refine LeO.ite ?_ ?_)
      | (with_reducible refine LeO.bind ?_ (fun _ => ?_))
      | exact ih0 _ _
      | exact ih1 _ _
      | exact ih2 _ _ _
      | exact ih3 _ _ _
      | exact foundryref04_Good.mono _ _
      | exact LeO.none _
      | refine LeO.ite ?_ ?_
      | refine LeO.bind ?_ (fun _ => ?_)
theorem foundryref05_Formed.mono : ∀ a0 k, LeO (foundryref05_Formed.f k a0) (foundryref05_Formed.f (k + 1) a0) := by
  intro a0 k
  obtain ⟨ih0, ih1, ih2, ih3⟩ := foundryref05_Formed.mono_l k
  unfold foundryref05_Formed.f
  repeat' first
      | (with_reducible exact ih0 _ _)
      | (with_reducible exact ih1 _ _)
      | (with_reducible exact ih2 _ _ _)
      | (with_reducible exact ih3 _ _ _)
      | (with_reducible exact foundryref04_Good.mono _ _)
      | (with_reducible exact LeO.refl _)
      | (with_reducible exact LeO.none _)
      | (with_reducible refine LeO.ite ?_ ?_)
      | (with_reducible refine LeO.bind ?_ (fun _ => ?_))
      | exact ih0 _ _
      | exact ih1 _ _
      | exact ih2 _ _ _
      | exact ih3 _ _ _
      | exact foundryref04_Good.mono _ _
      | exact LeO.none _
      | refine LeO.ite ?_ ?_
      | refine LeO.bind ?_ (fun _ => ?_)
set_option maxHeartbeats 8000000 in
set_option maxRecDepth 100000 in
theorem foundryref05_Formed.calls (k : Nat) (A0 : Option Addr) (c0 : Nat) (l0 : List (S123)) (r : Bool) (w : World) (hr0 : Kd.C k123 w A0 l0.length l0) (hc0 : l0.length ≤ c0) (h : foundryref05_Formed.f k l0 = some r) :
    Calls Try.prog 43 #[.slice A0 l0.length c0] w fun e w' => e = .returned (.bool r) ∧ Drawn0 w w' := by
  have HR0 := Aside0.mk hr0
  have HC0 := Aside0.mk hc0
  clear hr0 hc0
  have H : (if (l0.length : Int) < 1 then (foundryref05_Formed.j0 k l0 true) else (foundryref05_Formed.j0 k l0 (decide ((l0.length : Int) > 32)))) = some r := h
  clear h
  have HC2 := Aside0.mk H
  clear H
  go_enter Try.func43, Try.ntmps43
  go_upto_region 1 with (fail)
  repeat (go_quiet (fail); go_upto_region 1 with (fail))
  go_cut [12] (fun v12 wc => ∃ (kq : Nat) (x12_1 : Bool), v12 = .bool x12_1 ∧ Aside0 (foundryref05_Formed.j0 kq l0 x12_1 = some r) ∧ Aside0 (kq ≤ k) ∧ Drawn0 w wc)
  case first =>
    have H := HC2.out
    clear HC2
    by_cases c3 : (l0.length : Int) < 1
    · rw [if_pos c3] at H
      have c3b0 : decide ((l0.length : Int) < 1) = true := decide_eq_true c3
      have c3b1 : decide (l0.length < 1) = true := decide_eq_true (by omega)
      clear c3
      (first | rw [c3b0] | (simp only [i64_w, i32_w]; rw [c3b0]) | skip)
      have H' := Aside0.mk H
      clear H
      go_wp2
      repeat (go_quiet (fail); try go_wp2)
      go_meet
      case rel => exact ⟨_, (true), (by first | rfl | (simp; done) | (simp [*]; done)), H', ⟨by first | omega | exact Nat.le_refl _⟩, by repeat (first | exact Drawn0.refl _ | apply Drawn0.step)⟩
    · rw [if_neg c3] at H
      have c3b0 : decide ((l0.length : Int) < 1) = false := decide_eq_false c3
      have c3b1 : decide (l0.length < 1) = false := decide_eq_false (by omega)
      clear c3
      (first | rw [c3b0] | (simp only [i64_w, i32_w]; rw [c3b0]) | skip)
      have H' := Aside0.mk H
      clear H
      go_wp2
      repeat (go_quiet (fail); try go_wp2)
      go_meet
      case rel => exact ⟨_, (decide ((l0.length : Int) > 32)), (by first | rfl | (simp; done) | (simp [*]; done)), H', ⟨by first | omega | exact Nat.le_refl _⟩, by repeat (first | exact Drawn0.refl _ | apply Drawn0.step)⟩
  case rest =>
    clear HC2
    try clear p2
    try clear c3
    try clear c3b0
    try clear c3b1
    obtain ⟨kq, x12_1, rfl, HA, HJ1, ⟨mc1, rfl⟩⟩ := hcut
    cases kq with
    | zero => exact absurd HA.out (by simp [foundryref05_Formed.j0])
    | succ kj1 =>
      have H := HA.out
      clear HA
      simp only [foundryref05_Formed.j0] at H
      by_cases c4 : x12_1 = true
      · subst c4
        have H1 : (some false) = some r := by rw [if_pos rfl] at H; exact H
        clear H
        have H := H1
        clear H1
        obtain rfl := Option.some.inj H
        go_wp2
        repeat (go_quiet (fail); try go_wp2)
        go_ret
        exact ⟨by first | rfl | (simp; done) | (simp [*]; done), by repeat (first | exact Drawn0.refl _ | apply Drawn0.step)⟩
      · replace c4 := Bool.eq_false_iff.mpr c4
        subst c4
        have H1 : (foundryref05_Formed.l0 kj1 l0 0) = some r := by rw [if_neg (show ¬ (false = true) by decide)] at H; exact H
        clear H
        have H := H1
        clear H1
        have H' := Aside0.mk H
        clear H
        go_wp2
        repeat (go_quiet (fail); try go_wp2)
        go_loopg [3] kj1 (fun kq v3 w' => ∃ (x3_2 : Int), v3 = .int .i64 x3_2 ∧ Aside0 (foundryref05_Formed.l0 kq l0 x3_2 = some r) ∧ Aside0 (kq ≤ kj1) ∧ Drawn0 w w')
        case atStart => exact ⟨(0), (by first | rfl | (simp; done) | (simp [*]; done)), H', ⟨Nat.le_refl _⟩, by repeat (first | exact Drawn0.refl _ | apply Drawn0.step)⟩
        case round =>
          clear H'
          try clear c1
          try clear p2
          try clear c3
          try clear c3b0
          try clear c3b1
          try clear c4
          try clear p2
          obtain ⟨x3_2, rfl, HA, HK2, ⟨m2, rfl⟩⟩ := hrel
          cases gk with
          | zero => exact absurd HA.out (by simp [foundryref05_Formed.l0])
          | succ k2 =>
            have H := HA.out
            clear HA
            simp only [foundryref05_Formed.l0] at H
            by_cases c5 : x3_2 < (l0.length : Int)
            · rw [if_pos c5] at H
              have c5b0 : decide (x3_2 < (l0.length : Int)) = true := decide_eq_true c5
              clear c5
              have HC6 := Aside0.mk H
              clear H
              go_upto_region 6 with (fail)
              repeat (go_quiet (fail); go_upto_region 6 with (fail))
              go_cut [34] (fun v34 wc => ∃ (kq : Nat) (x34_5 : Bool), v34 = .bool x34_5 ∧ Aside0 (foundryref05_Formed.j2 kq l0 x3_2 x34_5 = some r) ∧ Aside0 (kq ≤ k2) ∧ Drawn0 w wc)
              case first =>
                have H := HC6.out
                clear HC6
                by_cases c7 : 0 ≤ x3_2
                · rw [if_pos c7] at H
                  have c7b0 : decide (0 ≤ x3_2) = true := decide_eq_true c7
                  clear c7
                  (first | rw [c7b0] | (simp only [i64_w, i32_w]; rw [c7b0]) | skip)
                  replace H := Option.bind_eq_some_iff.mp H
                  obtain ⟨t166, A80, H⟩ := H
                  replace H : (if t166 = true then (foundryref05_Formed.j2 k2 l0 x3_2 (decide ((((rd_T123 l0 x3_2).f1).length : Int) > 1048576))) else (foundryref05_Formed.j2 k2 l0 x3_2 true)) = some r := H
                  have A8 := Aside0.mk A80
                  clear A80
                  by_cases c9 : t166 = true
                  · subst c9
                    have H1 : (foundryref05_Formed.j2 k2 l0 x3_2 (decide ((((rd_T123 l0 x3_2).f1).length : Int) > 1048576))) = some r := by rw [if_pos rfl] at H; exact H
                    clear H
                    have H := H1
                    clear H1
                    have H' := Aside0.mk H
                    clear H
                    have p165 : 0 ≤ (x3_2 : Int) := of_decide_eq_true (by first | (with_reducible assumption) | assumption)
                    have q165 : x3_2 < (l0.length : Int) := of_decide_eq_true (by first | (with_reducible assumption) | assumption)
                    obtain ⟨ad165, A165_1, c165_1, e165, hx165_0, hx165_1, hl165_1, hi165_1⟩ := at_T123 HR0.out x3_2 p165 q165
                    cases e165
                    have HR165_1 := Aside0.mk hi165_1
                    have HC165_1 := Aside0.mk hl165_1
                    clear hi165_1 hl165_1
                    replace p165 := eq_true p165
                    replace q165 := eq_true q165
                    go_wp2_with (first | (go_at_call 88; (with_reducible refine (foundryref04_Good.calls k2 ((rd_T123 l0 x3_2).f0) true _ A8.out).mono ?_); rintro e w' ⟨rfl, ⟨nd, rfl⟩⟩; (try first | exact ⟨rfl, _, World.drewN_drewN _ _ _⟩ | exact ⟨rfl, _, Eq.trans (World.drewN_drewN _ _ _) (congrArg (World.drewN _) (Nat.add_assoc _ _ _))⟩); have p167 : 0 ≤ (x3_2 : Int) := of_decide_eq_true (by first | (with_reducible assumption) | assumption); have q167 : x3_2 < (l0.length : Int) := of_decide_eq_true (by first | (with_reducible assumption) | assumption); obtain ⟨ad167, A167_1, c167_1, e167, hx167_0, hx167_1, hl167_1, hi167_1⟩ := at_T123 HR0.out x3_2 p167 q167; obtain rfl : ad165 = ad167 := (by injection e167); have HR167_1 := Aside0.mk hi167_1; have HC167_1 := Aside0.mk hl167_1; clear hi167_1 hl167_1; replace p167 := eq_true p167; replace q167 := eq_true q167; have ea_ := Option.some.inj (hx165_1.symm.trans hx167_1); injection ea_ with ea_ en_ ec_; subst ea_; subst ec_; clear en_))
                    repeat (go_quiet (first | (go_at_call 88; (with_reducible refine (foundryref04_Good.calls k2 ((rd_T123 l0 x3_2).f0) true _ A8.out).mono ?_); rintro e w' ⟨rfl, ⟨nd, rfl⟩⟩; (try first | exact ⟨rfl, _, World.drewN_drewN _ _ _⟩ | exact ⟨rfl, _, Eq.trans (World.drewN_drewN _ _ _) (congrArg (World.drewN _) (Nat.add_assoc _ _ _))⟩); have p167 : 0 ≤ (x3_2 : Int) := of_decide_eq_true (by first | (with_reducible assumption) | assumption); have q167 : x3_2 < (l0.length : Int) := of_decide_eq_true (by first | (with_reducible assumption) | assumption); obtain ⟨ad167, A167_1, c167_1, e167, hx167_0, hx167_1, hl167_1, hi167_1⟩ := at_T123 HR0.out x3_2 p167 q167; obtain rfl : ad165 = ad167 := (by injection e167); have HR167_1 := Aside0.mk hi167_1; have HC167_1 := Aside0.mk hl167_1; clear hi167_1 hl167_1; replace p167 := eq_true p167; replace q167 := eq_true q167; have ea_ := Option.some.inj (hx165_1.symm.trans hx167_1); injection ea_ with ea_ en_ ec_; subst ea_; subst ec_; clear en_)); try go_wp2_with (first | (go_at_call 88; (with_reducible refine (foundryref04_Good.calls k2 ((rd_T123 l0 x3_2).f0) true _ A8.out).mono ?_); rintro e w' ⟨rfl, ⟨nd, rfl⟩⟩; (try first | exact ⟨rfl, _, World.drewN_drewN _ _ _⟩ | exact ⟨rfl, _, Eq.trans (World.drewN_drewN _ _ _) (congrArg (World.drewN _) (Nat.add_assoc _ _ _))⟩); have p167 : 0 ≤ (x3_2 : Int) := of_decide_eq_true (by first | (with_reducible assumption) | assumption); have q167 : x3_2 < (l0.length : Int) := of_decide_eq_true (by first | (with_reducible assumption) | assumption); obtain ⟨ad167, A167_1, c167_1, e167, hx167_0, hx167_1, hl167_1, hi167_1⟩ := at_T123 HR0.out x3_2 p167 q167; obtain rfl : ad165 = ad167 := (by injection e167); have HR167_1 := Aside0.mk hi167_1; have HC167_1 := Aside0.mk hl167_1; clear hi167_1 hl167_1; replace p167 := eq_true p167; replace q167 := eq_true q167; have ea_ := Option.some.inj (hx165_1.symm.trans hx167_1); injection ea_ with ea_ en_ ec_; subst ea_; subst ec_; clear en_)))
                    go_meet
                    case rel => exact ⟨_, (decide ((((rd_T123 l0 x3_2).f1).length : Int) > 1048576)), (by first | rfl | (simp; done) | (simp [*]; done)), H', ⟨by have := HJ1.out; have := HK2.out; first | omega | exact Nat.le_refl _⟩, by repeat (first | exact Drawn0.refl _ | apply Drawn0.step)⟩
                  · replace c9 := Bool.eq_false_iff.mpr c9
                    subst c9
                    have H1 : (foundryref05_Formed.j2 k2 l0 x3_2 true) = some r := by rw [if_neg (show ¬ (false = true) by decide)] at H; exact H
                    clear H
                    have H := H1
                    clear H1
                    have H' := Aside0.mk H
                    clear H
                    have p165 : 0 ≤ (x3_2 : Int) := of_decide_eq_true (by first | (with_reducible assumption) | assumption)
                    have q165 : x3_2 < (l0.length : Int) := of_decide_eq_true (by first | (with_reducible assumption) | assumption)
                    obtain ⟨ad165, A165_1, c165_1, e165, hx165_0, hx165_1, hl165_1, hi165_1⟩ := at_T123 HR0.out x3_2 p165 q165
                    cases e165
                    have HR165_1 := Aside0.mk hi165_1
                    have HC165_1 := Aside0.mk hl165_1
                    clear hi165_1 hl165_1
                    replace p165 := eq_true p165
                    replace q165 := eq_true q165
                    go_wp2_with (first | (go_at_call 88; (with_reducible refine (foundryref04_Good.calls k2 ((rd_T123 l0 x3_2).f0) false _ A8.out).mono ?_); rintro e w' ⟨rfl, ⟨nd, rfl⟩⟩; (try first | exact ⟨rfl, _, World.drewN_drewN _ _ _⟩ | exact ⟨rfl, _, Eq.trans (World.drewN_drewN _ _ _) (congrArg (World.drewN _) (Nat.add_assoc _ _ _))⟩)))
                    repeat (go_quiet (first | (go_at_call 88; (with_reducible refine (foundryref04_Good.calls k2 ((rd_T123 l0 x3_2).f0) false _ A8.out).mono ?_); rintro e w' ⟨rfl, ⟨nd, rfl⟩⟩; (try first | exact ⟨rfl, _, World.drewN_drewN _ _ _⟩ | exact ⟨rfl, _, Eq.trans (World.drewN_drewN _ _ _) (congrArg (World.drewN _) (Nat.add_assoc _ _ _))⟩))); try go_wp2_with (first | (go_at_call 88; (with_reducible refine (foundryref04_Good.calls k2 ((rd_T123 l0 x3_2).f0) false _ A8.out).mono ?_); rintro e w' ⟨rfl, ⟨nd, rfl⟩⟩; (try first | exact ⟨rfl, _, World.drewN_drewN _ _ _⟩ | exact ⟨rfl, _, Eq.trans (World.drewN_drewN _ _ _) (congrArg (World.drewN _) (Nat.add_assoc _ _ _))⟩))))
                    go_meet
                    case rel => exact ⟨_, (true), (by first | rfl | (simp; done) | (simp [*]; done)), H', ⟨by have := HJ1.out; have := HK2.out; first | omega | exact Nat.le_refl _⟩, by repeat (first | exact Drawn0.refl _ | apply Drawn0.step)⟩
                · rw [if_neg c7] at H
                  exact absurd H (by simp)
              case rest =>
                clear HC6
                try clear c1
                try clear p1
                try clear q1
                try clear hx1
                try clear p2
                try clear c3
                try clear c3b0
                try clear c3b1
                try clear c4
                try clear c5
                try clear c5b0
                try clear c7
                try clear c7b0
                try clear c9
                try clear hx165_0
                try clear hx165_1
                try clear hx167_0
                try clear hx167_1
                try clear p165
                try clear p167
                try clear p2
                try clear q165
                try clear q167
                obtain ⟨kq, x34_5, rfl, HA, HJ5, ⟨mc5, rfl⟩⟩ := hcut
                cases kq with
                | zero => exact absurd HA.out (by simp [foundryref05_Formed.j2])
                | succ kj5 =>
                  have H := HA.out
                  clear HA
                  simp only [foundryref05_Formed.j2] at H
                  by_cases c10 : x34_5 = true
                  · subst c10
                    have H1 : (some false) = some r := by rw [if_pos rfl] at H; exact H
                    clear H
                    have H := H1
                    clear H1
                    obtain rfl := Option.some.inj H
                    go_wp2
                    repeat (go_quiet (fail); try go_wp2)
                    go_ret
                    exact ⟨by first | rfl | (simp; done) | (simp [*]; done), by repeat (first | exact Drawn0.refl _ | apply Drawn0.step)⟩
                  · replace c10 := Bool.eq_false_iff.mpr c10
                    subst c10
                    have H1 : (foundryref05_Formed.l1 kj5 l0 x3_2 0) = some r := by rw [if_neg (show ¬ (false = true) by decide)] at H; exact H
                    clear H
                    have H := H1
                    clear H1
                    have H' := Aside0.mk H
                    clear H
                    go_wp2
                    repeat (go_quiet (fail); try go_wp2)
                    go_loopg [4] kj5 (fun kq v4 w' => ∃ (x4_4 : Int), v4 = .int .i64 x4_4 ∧ Aside0 (foundryref05_Formed.l1 kq l0 x3_2 x4_4 = some r) ∧ Aside0 (kq ≤ kj5) ∧ Drawn0 w w')
                    case atStart => exact ⟨(0), (by first | rfl | (simp; done) | (simp [*]; done)), H', ⟨Nat.le_refl _⟩, by repeat (first | exact Drawn0.refl _ | apply Drawn0.step)⟩
                    case round =>
                      clear H'
                      try clear c1
                      try clear p1
                      try clear q1
                      try clear hx1
                      try clear p2
                      try clear c3
                      try clear c3b0
                      try clear c3b1
                      try clear c4
                      try clear c5
                      try clear c5b0
                      try clear c7
                      try clear c7b0
                      try clear c9
                      try clear c10
                      try clear hx165_0
                      try clear hx165_1
                      try clear hx167_0
                      try clear hx167_1
                      try clear p1
                      try clear p165
                      try clear p167
                      try clear p2
                      try clear q1
                      try clear q165
                      try clear q167
                      obtain ⟨x4_4, rfl, HA, HK4, ⟨m4, rfl⟩⟩ := hrel
                      cases gk with
                      | zero => exact absurd HA.out (by simp [foundryref05_Formed.l1])
                      | succ k4 =>
                        have H := HA.out
                        clear HA
                        simp only [foundryref05_Formed.l1] at H
                        by_cases c11 : x4_4 < x3_2
                        · rw [if_pos c11] at H
                          have c11b0 : decide (x4_4 < x3_2) = true := decide_eq_true c11
                          clear c11
                          by_cases c12 : 0 ≤ x4_4
                          · rw [if_pos c12] at H
                            have c12b0 : decide (0 ≤ x4_4) = true := decide_eq_true c12
                            clear c12
                            by_cases c13 : x4_4 < (l0.length : Int)
                            · rw [if_pos c13] at H
                              have c13b0 : decide (x4_4 < (l0.length : Int)) = true := decide_eq_true c13
                              clear c13
                              by_cases c14 : 0 ≤ x3_2
                              · rw [if_pos c14] at H
                                have c14b0 : decide (0 ≤ x3_2) = true := decide_eq_true c14
                                clear c14
                                by_cases c15 : x3_2 < (l0.length : Int)
                                · rw [if_pos c15] at H
                                  have c15b0 : decide (x3_2 < (l0.length : Int)) = true := decide_eq_true c15
                                  clear c15
                                  by_cases c16 : ((rd_T123 l0 x4_4).f0).toList = ((rd_T123 l0 x3_2).f0).toList
                                  · rw [if_pos c16] at H
                                    have c16b0 : (((rd_T123 l0 x4_4).f0).toList == ((rd_T123 l0 x3_2).f0).toList) = true := beq_iff_eq.mpr c16
                                    have c16b1 : (((rd_T123 l0 x4_4).f0).toList != ((rd_T123 l0 x3_2).f0).toList) = false := bne_eq_false_iff_eq.mpr c16
                                    clear c16
                                    obtain rfl := Option.some.inj H
                                    have p168 : 0 ≤ (x4_4 : Int) := of_decide_eq_true (by first | (with_reducible assumption) | assumption)
                                    have q168 : x4_4 < (l0.length : Int) := of_decide_eq_true (by first | (with_reducible assumption) | assumption)
                                    obtain ⟨ad168, A168_1, c168_1, e168, hx168_0, hx168_1, hl168_1, hi168_1⟩ := at_T123 HR0.out x4_4 p168 q168
                                    cases e168
                                    have HR168_1 := Aside0.mk hi168_1
                                    have HC168_1 := Aside0.mk hl168_1
                                    clear hi168_1 hl168_1
                                    replace p168 := eq_true p168
                                    replace q168 := eq_true q168
                                    have p169 : 0 ≤ (x3_2 : Int) := of_decide_eq_true (by first | (with_reducible assumption) | assumption)
                                    have q169 : x3_2 < (l0.length : Int) := of_decide_eq_true (by first | (with_reducible assumption) | assumption)
                                    obtain ⟨ad169, A169_1, c169_1, e169, hx169_0, hx169_1, hl169_1, hi169_1⟩ := at_T123 HR0.out x3_2 p169 q169
                                    obtain rfl : ad168 = ad169 := (by injection e169)
                                    have HR169_1 := Aside0.mk hi169_1
                                    have HC169_1 := Aside0.mk hl169_1
                                    clear hi169_1 hl169_1
                                    replace p169 := eq_true p169
                                    replace q169 := eq_true q169
                                    go_wp2
                                    repeat (go_quiet (fail); try go_wp2)
                                    go_ret
                                    exact ⟨by first | rfl | (simp; done) | (simp [*]; done), by repeat (first | exact Drawn0.refl _ | apply Drawn0.step)⟩
                                  · rw [if_neg c16] at H
                                    have c16b0 : (((rd_T123 l0 x4_4).f0).toList == ((rd_T123 l0 x3_2).f0).toList) = false := beq_eq_false_iff_ne.mpr c16
                                    have c16b1 : (((rd_T123 l0 x4_4).f0).toList != ((rd_T123 l0 x3_2).f0).toList) = true := bne_iff_ne.mpr c16
                                    have H' := Aside0.mk H
                                    clear H
                                    have p168 : 0 ≤ (x4_4 : Int) := of_decide_eq_true (by first | (with_reducible assumption) | assumption)
                                    have q168 : x4_4 < (l0.length : Int) := of_decide_eq_true (by first | (with_reducible assumption) | assumption)
                                    obtain ⟨ad168, A168_1, c168_1, e168, hx168_0, hx168_1, hl168_1, hi168_1⟩ := at_T123 HR0.out x4_4 p168 q168
                                    cases e168
                                    have HR168_1 := Aside0.mk hi168_1
                                    have HC168_1 := Aside0.mk hl168_1
                                    clear hi168_1 hl168_1
                                    replace p168 := eq_true p168
                                    replace q168 := eq_true q168
                                    have p169 : 0 ≤ (x3_2 : Int) := of_decide_eq_true (by first | (with_reducible assumption) | assumption)
                                    have q169 : x3_2 < (l0.length : Int) := of_decide_eq_true (by first | (with_reducible assumption) | assumption)
                                    obtain ⟨ad169, A169_1, c169_1, e169, hx169_0, hx169_1, hl169_1, hi169_1⟩ := at_T123 HR0.out x3_2 p169 q169
                                    obtain rfl : ad168 = ad169 := (by injection e169)
                                    have HR169_1 := Aside0.mk hi169_1
                                    have HC169_1 := Aside0.mk hl169_1
                                    clear hi169_1 hl169_1
                                    replace p169 := eq_true p169
                                    replace q169 := eq_true q169
                                    go_wp2
                                    repeat (go_quiet (fail); try go_wp2)
                                    go_roundg k4
                                    case measure => have := HJ1.out; have := HK2.out; have := HJ5.out; have := HK4.out; omega
                                    case rel => exact ⟨(wrap64 (x4_4 + 1)), (by first | rfl | (simp; done) | (simp [*]; done)), H', ⟨by have := HJ1.out; have := HK2.out; have := HJ5.out; have := HK4.out; omega⟩, by repeat (first | exact Drawn0.refl _ | apply Drawn0.step)⟩
                                · rw [if_neg c15] at H
                                  exact absurd H (by simp)
                              · rw [if_neg c14] at H
                                exact absurd H (by simp)
                            · rw [if_neg c13] at H
                              exact absurd H (by simp)
                          · rw [if_neg c12] at H
                            exact absurd H (by simp)
                        · rw [if_neg c11] at H
                          have c11b0 : decide (x4_4 < x3_2) = false := decide_eq_false c11
                          clear c11
                          have H' := Aside0.mk H
                          clear H
                          go_wp2
                          repeat (go_quiet (fail); try go_wp2)
                          go_roundg k4
                          case measure => have := HJ1.out; have := HK2.out; have := HJ5.out; have := HK4.out; omega
                          case rel => exact ⟨(wrap64 (x3_2 + 1)), (by first | rfl | (simp; done) | (simp [*]; done)), H', ⟨by have := HJ1.out; have := HK2.out; have := HJ5.out; have := HK4.out; omega⟩, by repeat (first | exact Drawn0.refl _ | apply Drawn0.step)⟩
            · rw [if_neg c5] at H
              have c5b0 : decide (x3_2 < (l0.length : Int)) = false := decide_eq_false c5
              clear c5
              obtain rfl := Option.some.inj H
              go_wp2
              repeat (go_quiet (fail); try go_wp2)
              go_ret
              exact ⟨by first | rfl | (simp; done) | (simp [*]; done), by repeat (first | exact Drawn0.refl _ | apply Drawn0.step)⟩

/-! ### foundryref04_U16: function 93 -/
def foundryref04_U16.f (k : Nat) (l0 : List Int) (a1 : Int) : Option (Int × Bool) := (foundryref04_number.f k l0 a1 2).bind fun bt170 => (some (bt170.1, bt170.2))
theorem foundryref04_U16.mono : ∀ a0 a1 k, LeO (foundryref04_U16.f k a0 a1) (foundryref04_U16.f (k + 1) a0 a1) := by
  intro a0 a1 k
  unfold foundryref04_U16.f
  repeat' first
      | (with_reducible exact foundryref04_number.mono _ _ _ _)
      | (with_reducible exact LeO.refl _)
      | (with_reducible exact LeO.none _)
      | (with_reducible refine LeO.ite ?_ ?_)
      | (with_reducible refine LeO.bind ?_ (fun _ => ?_))
      | exact foundryref04_number.mono _ _ _ _
      | exact LeO.none _
      | refine LeO.ite ?_ ?_
      | refine LeO.bind ?_ (fun _ => ?_)
set_option maxHeartbeats 8000000 in
set_option maxRecDepth 100000 in
theorem foundryref04_U16.calls (k : Nat) (A0 : Option Addr) (c0 : Nat) (l0 : List Int) (a1 : Int) (r1 : Int) (r2 : Bool) (w : World) (hr0 : Kd.C (Kd.int .u8) w A0 l0.length l0) (hc0 : l0.length ≤ c0) (h : foundryref04_U16.f k l0 a1 = some (r1, r2)) :
    Calls Try.prog 93 #[.slice A0 l0.length c0, .int .i64 a1] w fun e w' => e = .returned (.tuple #[.int .i64 r1, .bool r2]) ∧ Drawn0 w w' := by
  have HR0 := Aside0.mk hr0
  have HC0 := Aside0.mk hc0
  clear hr0 hc0
  have H : ((foundryref04_number.f k l0 a1 2).bind fun bt170 => (some (bt170.1, bt170.2))) = some (r1, r2) := h
  clear h
  replace H := Option.bind_eq_some_iff.mp H
  obtain ⟨⟨t170, t171⟩, A30, H⟩ := H
  replace H : (some (t170, t171)) = some (r1, r2) := H
  have A3 := Aside0.mk A30
  clear A30
  simp only [Option.some.injEq, Prod.mk.injEq] at H
  obtain ⟨rfl, rfl⟩ := H
  go_enter Try.func93, Try.ntmps93
  go_wp2_with (first | ((with_reducible refine gate_callee (f := 115) rfl ?_); refine goesL_ (some 8) rfl rfl Try.func115 (by kernel_rfl) rfl #[.slice A0 l0.length c0, .int .i64 a1, .int .i64 2] rfl (by (try simp only [List.map_toArray, List.map_cons, List.map_nil]); first | done | rfl | (simp only [List.length_drop, List.length_take]; rfl)) ?_; (with_reducible refine (foundryref04_number.calls k _ _ l0 a1 2 t170 t171 _ ?side1 ?side2 A3.out).mono ?_); (case side1 => repeat (first | exact HR0.out | (with_reducible refine Kd.C_alloc ?_ _) | (with_reducible refine Kd.C_drewN ?_ _) | (with_reducible refine Kd.C_drew ?_))); (case side2 => exact HC0.out); rintro e w' ⟨rfl, ⟨nd, rfl⟩⟩; refine ⟨_, rfl, ?_⟩))
  go_ret2
  exact ⟨by first | rfl | (simp; done) | (simp [*]; done), by repeat (first | exact Drawn0.refl _ | apply Drawn0.step)⟩

end Go.Proofs.Ytmppdgjnibamlab.PSf
