/- FeatsConds: its walk, and its row's plain form. No condition. -/
import Derived.Test.YtmppdgjnibamlabFeF
import Derived.Test.YtmppdgjnibamlabPFex1
namespace Go.Proofs.Ytmppdgjnibamlab.Pag
open Go.RowKit Go.Proofs.Ytmppdgjnibamlab.PFe Go.Proofs.YtmppdgjnibamlabW.PrintWords Go.Proofs.Ytmppdgjnibamlab.Pure
set_option linter.unusedVariables false
set_option linter.unusedSimpArgs false

theorem holdsB_cons (c : S58) (l : List S58) (x : List Int) : holdsB (c :: l) x = (condB x c && holdsB l x) := rfl
theorem holdsB_snoc (c : S58) (l : List S58) (x : List Int) : holdsB (l ++ [c]) x = (holdsB l x && condB x c) := by simp [holdsB]
theorem holds_any (A0 : Option Addr) (c0 : Nat) (l0 : List S58) (A1 : Option Addr) (c1 : Nat) (l1 : List Int) (w : World) (hr0 : Kd.C k58 w A0 l0.length l0) (hc0 : l0.length ≤ c0) (hr1 : Kd.C (Kd.int .i64) w A1 l1.length l1) (hc1 : l1.length ≤ c1) :
    Calls Try.prog 32 #[.slice A0 l0.length c0, .slice A1 l1.length c1] w fun e w' => e = .returned (.bool (holdsB l0 l1)) ∧ Below w.heap.size w w' := by
  obtain ⟨k, hk⟩ := (holdsF_ev l0 l1 hr0.2.1).rounds
  exact feats_Holds.calls k A0 c0 l0 A1 c1 l1 _ w hr0 hc0 hr1 hc1 hk
theorem info_cond : (Try.prog.info? 58).map (fun i => (i.zero, i.size, i.bytes)) = some (some (.agg #[.int .i64 0, .int .i64 0, .int .i64 0]), 3, 24) := by kernel_rfl
theorem one_cut {w : World} {A0 : Option Addr} {c0 : Nat} {l0 : List S58} (hr0 : Kd.C k58 w A0 l0.length l0) (hc0 : l0.length ≤ c0) (j : Nat) (hj : j < l0.length) :
    ∃ A' c', (∀ W : World, (Instr.slice 55 (.slice A0 l0.length c0) (some (.int .i64 (j : Int))) (some (.int .i64 ((j : Int) + 1))) none).run Try.prog W = .ok (.slice A' 1 c') W) ∧ Kd.C k58 w A' 1 [l0[j]] ∧ 1 ≤ c' := by
  obtain ⟨i0, hi, _, hsz, _⟩ := info_parts info_cond
  have h1 := cut_mid (P := Try.prog) 55 58 .i64 .i64 Try.underlying55 hi 3 hsz A0 l0.length c0 (j : Int) ((j : Int) + 1) (by omega) (by omega) (by omega) hc0
  have h2 := Kd.C_mid (lo := j) (hi := j + 1) (c := c0) hr0 (by omega) (by omega) hc0
  have hone : (l0.take (j + 1)).drop j = [l0[j]] := by
    rw [List.take_succ_eq_append_getElem hj, List.drop_append_of_le_length (by rw [List.length_take]; omega), List.drop_of_length_le (by rw [List.length_take]; omega)]; rfl
  rw [hone] at h2
  rw [show ((j : Int) + 1).toNat = j + 1 by omega, Int.toNat_natCast, show j + 1 - j = 1 by omega] at h1
  exact ⟨_, _, h1, h2, by omega⟩
theorem lone_C {W : World} {g : Nat} {n : Int} (h : W.heap[g]? = some (.cells #[.int .i64 0, .int .i64 n, .int .i64 n] 58 (0, 0))) : Kd.C k58 W (some ⟨g, 0, none⟩) 1 [⟨0, n, n⟩] := by
  refine ⟨rfl, by omega, fun _ => ⟨_, rfl, fun j p hj => ?_⟩⟩
  have hj0 : j = 0 := by have := (List.getElem?_eq_some_iff.1 hj).1; simpa using this
  subst hj0
  have hp : (⟨0, n, n⟩ : S58) = p := by simpa using hj
  subst hp
  refine ⟨_, rfl, k58_mk W _, fun i u hu => ?_⟩
  have hi : i < 3 := by have := (List.getElem?_eq_some_iff.1 hu).1; simpa using this
  match i, hi, hu with
  | 0, _, hu => rw [← hu]; exact (blk_cell h 0).trans rfl
  | 1, _, hu => rw [← hu]; exact (blk_cell h 1).trans rfl
  | 2, _, hu => rw [← hu]; exact (blk_cell h 2).trans rfl
theorem lone_I {W : World} {g : Nat} {n : Int} (h : W.heap[g]? = some (.cells #[.int .i64 n] 3 (0, 0))) : Kd.C (Kd.int .i64) W (some ⟨g, 0, none⟩) 1 [n] := by
  refine ⟨rfl, by omega, fun _ => ⟨_, rfl, fun j p hj => ?_⟩⟩
  have hj0 : j = 0 := by have := (List.getElem?_eq_some_iff.1 hj).1; simpa using this
  subst hj0
  have hp : n = p := by simpa using hj
  subst hp
  refine ⟨[.int .i64 n], rfl, rfl, fun i u hu => ?_⟩
  have hi : i = 0 := by have := (List.getElem?_eq_some_iff.1 hu).1; simpa using this
  subst hi
  rw [← hu]; exact (blk_cell h 0).trans rfl
theorem lone_t (n : Int) : holdsB [⟨0, n, n⟩] [n] = true := by simp [holdsB, condB, coordP, rd]
theorem lone_e (n : Int) : (holdsB [⟨0, n, n⟩] [] == (n == 0)) = true := by
  simp only [holdsB, condB, coordP, List.all_cons, List.all_nil, List.length_nil, Bool.and_true]
  by_cases e : n = 0
  · subst e; rfl
  · by_cases h : n ≤ 0
    · have : ¬ (0 ≤ n) := by omega
      simp [e, h, this]
    · simp [e, h]

set_option maxHeartbeats 1000000 in
theorem conds_out (A0 : Option Addr) (c0 : Nat) (l0 : List S58) (A1 : Option Addr) (c1 : Nat) (l1 : List Int) (n : Int) (w : World) (h0 : l0.length ≤ 9223372036854775807) (h1 : l1.length ≤ 9223372036854775807) (h : 50 < l0.length ∨ (l0.length ≤ 50 ∧ 20 < l1.length)) :
    Calls Try.prog 9 #[.slice A0 l0.length c0, .slice A1 l1.length c1, .int .i64 n] w fun e w' => e = .returned (.bool true) ∧ Below w.heap.size w w' := by
  have HA := Aside0.mk (fun W => foundrylaw22_awake.calls true W awake22)
  have HB := Aside0.mk (Below.refl w.heap.size w)
  rcases h with h | ⟨h, h'⟩
  · go_enter Try.func9, Try.ntmps9
    go_wp2_with (go_at_call 25; refine (HA.out _).mono ?_; rintro e w1 ⟨rfl, hb⟩; have HB1 := Aside0.mk (below_then HB.out HB.out.size hb); clear HB hb; have HB := HB1; clear HB1)
    go_ret
    exact ⟨rfl, HB.out⟩
  · go_enter Try.func9, Try.ntmps9
    go_wp2_with (go_at_call 25; refine (HA.out _).mono ?_; rintro e w1 ⟨rfl, hb⟩; have HB1 := Aside0.mk (below_then HB.out HB.out.size hb); clear HB hb; have HB := HB1; clear HB1)
    go_ret
    exact ⟨rfl, HB.out⟩

set_option maxHeartbeats 4000000 in
set_option maxRecDepth 100000 in
theorem conds_in (A0 : Option Addr) (c0 : Nat) (l0 : List S58) (A1 : Option Addr) (c1 : Nat) (l1 : List Int) (n : Int) (w : World)
    (hr0 : Kd.C k58 w A0 l0.length l0) (hc0 : l0.length ≤ c0) (hr1 : Kd.C (Kd.int .i64) w A1 l1.length l1) (hc1 : l1.length ≤ c1) (h0 : l0.length ≤ 50) (h1 : l1.length ≤ 20) :
    Calls Try.prog 9 #[.slice A0 l0.length c0, .slice A1 l1.length c1, .int .i64 n] w fun e w' => e = .returned (.bool true) ∧ Below w.heap.size w w' := by
  have HA := Aside0.mk (fun W => foundrylaw22_awake.calls true W awake22)
  have HR0 := Aside0.mk hr0
  have HR1 := Aside0.mk hr1
  have HC0 := Aside0.mk hc0
  have HC1 := Aside0.mk hc1
  clear hr0 hr1 hc0 hc1
  go_enter Try.func9, Try.ntmps9
  go_wp2_with (go_at_call 25; refine (HA.out _).mono ?_; rintro e w1 ⟨rfl, hb⟩; have HBA := Aside0.mk hb; clear hb)
  go_loopw [7, 8] (fun v i wr => ∃ j : Nat, i = .int .i64 (j : Int) ∧ j ≤ l0.length ∧ v = .bool (holdsB (l0.take j) l1) ∧ Aside0 (Below w.heap.size w wr)) (fun _ i _ => l0.length - (RowKit.intOf i).toNat)
  case atStart => exact ⟨0, rfl, by omega, rfl, HBA⟩
  case round =>
    obtain ⟨j, rfl, hj, rfl, HB⟩ := hrel
    clear HBA
    by_cases hlt : j < l0.length
    · obtain ⟨A', c', hcut, hC', hc'⟩ := one_cut HR0.out HC0.out j hlt
      have HCC := Aside0.mk hC'
      have HCH := Aside0.mk hc'
      have hsn : holdsB (l0.take (j + 1)) l1 = (holdsB (l0.take j) l1 && condB l1 l0[j]) := by
        rw [List.take_succ_eq_append_getElem hlt, holdsB_snoc]
      have HSN := Aside0.mk hsn
      have hjl : (j : Int) < (l0.length : Int) := by omega
      have hj0 : (0 : Int) ≤ (j : Int) := by omega
      clear hsn hC' hc'
      have hcell := at_T58 (Kd.C_below HR0.out HB.out) (j : Int) hj0 hjl
      obtain ⟨ad, had, -⟩ := hcell
      have HCELL := Aside0.mk (fun (W : World) (hb : Below w.heap.size w W) => at_T58 (Kd.C_below HR0.out hb) (j : Int) hj0 hjl)
      have HRD := Aside0.mk (rd_getT58 hlt)
      subst had
      obtain ⟨acc, hacc⟩ : ∃ acc, holdsB (l0.take j) l1 = acc := ⟨_, rfl⟩
      rw [hacc] at HSN ⊢
      obtain ⟨c, hc⟩ : ∃ c, l0[j] = c := ⟨_, rfl⟩
      rw [hc] at HSN HRD HCC
      clear hacc hc
      obtain ⟨ca, cb, cc⟩ := c
      have HCALL := Aside0.mk (fun (W : World) (hb : Below w.heap.size w W) => holds_any A' c' [⟨ca, cb, cc⟩] A1 c1 l1 W (Kd.C_below HCC.out hb) HCH.out (Kd.C_below HR1.out hb) HC1.out)
      have HONE := Aside0.mk (show holdsB [⟨ca, cb, cc⟩] l1 = condB l1 ⟨ca, cb, cc⟩ by simp [holdsB])
      simp only [HONE.out] at HCALL
      have HCD := Aside0.mk (show condB l1 ⟨ca, cb, cc⟩ = (decide (0 ≤ ca) && (decide (cb ≤ coordP l1 ca) && decide (coordP l1 ca ≤ cc))) from rfl)
      obtain ⟨one, hone⟩ : ∃ one, condB l1 ⟨ca, cb, cc⟩ = one := ⟨_, rfl⟩
      simp only [hone] at HCALL HSN HCD
      clear hone HONE HCC HCH
      go_wp2_with (go_at_call 32; refine (HCALL.out _ HB.out).mono ?_; rintro e w1 ⟨rfl, hb⟩; have HB1 := Aside0.mk (below_then HB.out HB.out.size hb); clear HB hb; have HB := HB1; clear HB1; obtain ⟨ad2, e2, hx0, hx1, hx2⟩ := HCELL.out _ HB.out; have e3 := Option.some.inj e2; subst e3; rw [HRD.out] at hx0 hx1 hx2; simp only [Int.toNat_natCast] at hx0 hx1 hx2; clear e2 HCELL)
      by_cases k0 : 0 ≤ ca
      · obtain ⟨m, rfl⟩ := Int.eq_ofNat_of_zero_le k0
        by_cases k1 : m < l1.length
        · obtain ⟨ac, hac, hcl⟩ := (C_reads (Kd.C_below HR1.out HB.out)).2.2 (by omega)
          subst hac
          have hxm := hcl m k1
          obtain ⟨x, hx⟩ : ∃ x, l1.getD m 0 = x := ⟨_, rfl⟩
          rw [hx] at hxm
          have HX := Aside0.mk (show coordP l1 (m : Int) = x by unfold coordP; rw [if_pos (by omega)]; rw [← hx]; simp [rd])
          rw [HX.out] at HCD
          have km : (m : Int) < (l1.length : Int) := by omega
          clear hcl hx HX k0
          by_cases k2 : cb ≤ x
          · by_cases k3 : x ≤ cc
            · obtain rfl : one = true := by rw [HCD.out]; simp [k2, k3]
              clear HCD
              cases acc <;>
              · go_wp2
                go_quiet (fail)
                go_wp2
                go_roundw
                case rel => exact ⟨j + 1, by go_num, by omega, by rw [HSN.out]; rfl, ⟨by repeat (first | exact HB.out | apply pw_below_drewN | apply below_drew1)⟩⟩
                case measure => simp [RowKit.intOf]; omega
            · have k3b : cc < x := by omega
              obtain rfl : one = false := by rw [HCD.out]; simp [k3]
              clear HCD
              cases acc <;>
              · go_wp2
                go_quiet (fail)
                go_wp2
                go_roundw
                case rel => exact ⟨j + 1, by go_num, by omega, by rw [HSN.out]; rfl, ⟨by repeat (first | exact HB.out | apply pw_below_drewN | apply below_drew1)⟩⟩
                case measure => simp [RowKit.intOf]; omega
          · have k2b : x < cb := by omega
            have k2c : decide (cb ≤ x) = false := by simpa using k2
            obtain rfl : one = false := by rw [HCD.out]; simp [k2]
            clear HCD
            cases acc <;>
            · go_wp2
              go_quiet (fail)
              go_wp2
              go_roundw
              case rel => exact ⟨j + 1, by go_num, by omega, by rw [HSN.out]; rfl, ⟨by repeat (first | exact HB.out | apply pw_below_drewN | apply below_drew1)⟩⟩
              case measure => simp [RowKit.intOf]; omega
        · have km : (l1.length : Int) ≤ (m : Int) := by omega
          have kmb : decide ((m : Int) < (l1.length : Int)) = false := by simp; omega
          clear HCD k0
          cases one <;> cases acc <;>
          · go_wp2
            go_quiet (fail)
            go_wp2
            go_roundw
            case rel => exact ⟨j + 1, by go_num, by omega, by rw [HSN.out]; rfl, ⟨by repeat (first | exact HB.out | apply pw_below_drewN | apply below_drew1)⟩⟩
            case measure => simp [RowKit.intOf]; omega
      · have k0b : decide (0 ≤ ca) = false := by simpa using k0
        have k0c : ca < 0 := by omega
        obtain rfl : one = false := by rw [HCD.out]; simp [k0]
        clear HCD
        cases acc <;>
        · go_wp2
          go_quiet (fail)
          go_wp2
          go_roundw
          case rel => exact ⟨j + 1, by go_num, by omega, by rw [HSN.out]; rfl, ⟨by repeat (first | exact HB.out | apply pw_below_drewN | apply below_drew1)⟩⟩
          case measure => simp [RowKit.intOf]; omega
    · obtain rfl : j = l0.length := by omega
      rw [List.take_length]
      obtain ⟨all, hall⟩ : ∃ all, holdsB l0 l1 = all := ⟨_, rfl⟩
      have H1 := Aside0.mk (fun (W : World) (hb : Below w.heap.size w W) => holds_any A0 c0 l0 A1 c1 l1 W (Kd.C_below HR0.out hb) HC0.out (Kd.C_below HR1.out hb) HC1.out)
      have H2 := Aside0.mk (fun (W : World) (hb : Below w.heap.size w W) => holds_any none 0 [] A1 c1 l1 W (Kd.C_nil _ _) (Nat.le_refl _) (Kd.C_below HR1.out hb) HC1.out)
      rw [hall] at H1 ⊢
      clear hall
      have HLE := Aside0.mk (lone_e n)
      obtain ⟨le, hle⟩ : ∃ le, holdsB [⟨0, n, n⟩] [] = le := ⟨_, rfl⟩
      rw [hle] at HLE
      have HLEQ := Aside0.mk hle
      clear hle
      have HN1 := Aside0.mk (heap_alloc_new wr (.cells #[.int .i64 0, .int .i64 n, .int .i64 n] 58))
      have HT := Aside0.mk (lone_t n)
      obtain ⟨gl, hgl⟩ : ∃ gl, wr.heap.size = gl := ⟨_, rfl⟩
      have hga : ∀ o, (wr.alloc o).heap.size = gl + 1 := fun o => by simp [hgl]
      rw [hgl] at HN1
      have HGA := Aside0.mk hga
      clear hga
      cases all <;>
      · go_wp2_with fail
        refine (H1.out _ (below_alloc HB.out _)).mono ?_
        rintro e w1 ⟨rfl, hb⟩
        have HB1 := Aside0.mk (below_then (below_alloc HB.out _) (by have := HB.out.size; simp; omega) hb)
        have HK1 := Aside0.mk ((hb.block gl (by rw [HGA.out]; omega)).trans HN1.out)
        clear hb
        go_wp2_with fail
        refine (H2.out _ HB1.out).mono ?_
        rintro e w2 ⟨rfl, hb⟩
        have HB2 := Aside0.mk (below_then HB1.out HB1.out.size hb)
        have HK2 := Aside0.mk ((hb.block gl (blk_lt HK1.out)).trans HK1.out)
        clear hb HK1
        go_wp2_with fail
        refine (holds_any (some ⟨gl, 0, none⟩) 1 [⟨0, n, n⟩] (some ⟨w2.heap.size, 0, none⟩) 1 [n] _ (lone_C (n := n) (by exact (Below.heap_alloc _ _ _ (blk_lt HK2.out)).trans HK2.out)) (Nat.le_refl _) (lone_I (n := n) (heap_alloc_new w2 _)) (Nat.le_refl _)).mono ?_
        rintro e w3 ⟨rfl, hb⟩
        have HB3 := Aside0.mk (below_then (below_alloc HB2.out _) (by have := HB2.out.size; simp; omega) hb)
        have HK3 := Aside0.mk ((hb.block gl (by have := blk_lt HK2.out; simp; omega)).trans ((Below.heap_alloc _ _ _ (blk_lt HK2.out)).trans HK2.out))
        rw [HT.out]
        clear hb HK2
        go_wp2_with fail
        refine (holds_any (some ⟨gl, 0, none⟩) 1 [⟨0, n, n⟩] none 0 [] _ (lone_C (n := n) HK3.out) (Nat.le_refl _) (Kd.C_nil _ _) (Nat.le_refl _)).mono ?_
        rintro e w4 ⟨rfl, hb⟩
        have HB4 := Aside0.mk (below_then HB3.out HB3.out.size hb)
        rw [HLEQ.out]
        clear hb HK3
        have hle2 := HLE.out
        go_wp2
        go_ret
        exact ⟨rfl, HB4.out⟩

theorem conds_all (A0 : Option Addr) (c0 : Nat) (l0 : List S58) (A1 : Option Addr) (c1 : Nat) (l1 : List Int) (n : Int) (w : World)
    (hr0 : Kd.C k58 w A0 l0.length l0) (hc0 : l0.length ≤ c0) (hr1 : Kd.C (Kd.int .i64) w A1 l1.length l1) (hc1 : l1.length ≤ c1) :
    Calls Try.prog 9 #[.slice A0 l0.length c0, .slice A1 l1.length c1, .int .i64 n] w fun e w' => e = .returned (.bool true) ∧ Below w.heap.size w w' := by
  by_cases h : 50 < l0.length ∨ (l0.length ≤ 50 ∧ 20 < l1.length)
  · exact conds_out A0 c0 l0 A1 c1 l1 n w hr0.2.1 hr1.2.1 h
  · exact conds_in A0 c0 l0 A1 c1 l1 n w hr0 hc0 hr1 hc1 (by omega) (by omega)
/-- In the print's form: there is nothing that it answers but true. -/
def foundrylaw22_FeatsConds.f (l0 : List S58) (l1 : List Int) (n : Int) : Option Bool := some true
theorem foundrylaw22_FeatsConds.calls (A0 : Option Addr) (c0 : Nat) (l0 : List S58) (A1 : Option Addr) (c1 : Nat) (l1 : List Int) (n : Int) (r : Bool) (w : World)
    (hr0 : Kd.C k58 w A0 l0.length l0) (hc0 : l0.length ≤ c0) (hr1 : Kd.C (Kd.int .i64) w A1 l1.length l1) (hc1 : l1.length ≤ c1) (h : foundrylaw22_FeatsConds.f l0 l1 n = some r) :
    Calls Try.prog 9 #[.slice A0 l0.length c0, .slice A1 l1.length c1, .int .i64 n] w fun e w' => e = .returned (.bool r) ∧ Below w.heap.size w w' := by
  obtain rfl : true = r := Option.some.inj h
  exact conds_all A0 c0 l0 A1 c1 l1 n w hr0 hc0 hr1 hc1
theorem FeatsConds_plain (l0 : List S58) (l1 : List Int) (n : Int) {P0 P1 P2 : Prop} (h0 : P0) (h1 : P1) (h2 : P2) : ∃ k : Nat, foundrylaw22_FeatsConds.f l0 l1 n = some true := ⟨0, rfl⟩
end Go.Proofs.Ytmppdgjnibamlab.Pag
