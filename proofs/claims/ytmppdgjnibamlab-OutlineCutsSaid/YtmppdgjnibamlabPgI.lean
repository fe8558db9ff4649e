/- The contract of octets.field: the number of some bytes, at most 7, of bytes that are bytes. -/
import Derived.Test.YtmppdgjnibamlabPgF
import Derived.Laws.BitsLemmas
namespace Go.Proofs.Ytmppdgjnibamlab.Pag
open Go.RowKit Go.Proofs.YtmppdgjnibamlabW.PrintWords
set_option linter.unusedVariables false
set_option linter.unusedSimpArgs false

/-- The number of bytes, the most significant first. -/
def numBE (ys : List Int) : Int := ys.foldl (fun x c => 256 * x + c) 0
def byteB (x : Int) : Bool := decide (0 ≤ x) && decide (x ≤ 255)
def octets_field.f (l0 : List Int) (a1 a2 : Int) : Option (Int × Bool) :=
  if l0.all byteB = true ∧ 1 ≤ a2 ∧ a2 ≤ 7 then (if a1 < 0 ∨ a1 > (l0.length : Int) - a2 then some (0, false) else some (numBE ((l0.drop a1.toNat).take a2.toNat), true)) else none

theorem wraps_i64 (n : Int) (h0 : 0 ≤ n) (h1 : n < 2 ^ 63) : IntKind.i64.wrap n = n := by rw [IntKind.wrap_i64]; omega
theorem or_byte (x c : Int) (h0 : 0 ≤ x) (h1 : x < 36028797018963968) (h2 : 0 ≤ c) (h3 : c ≤ 255) : bits .or .i64 (x * 256) c = 256 * x + c := by
  have h := bits_join .i64 63 (by decide) wraps_i64 8 (x := x * 256) (y := c) (by omega) (by omega) (by omega) (by omega) (by omega) (by omega)
  rw [h]; omega
theorem numBE_snoc (ys : List Int) (c : Int) : numBE (ys ++ [c]) = 256 * numBE ys + c := by simp [numBE, List.foldl_append]
theorem foldBE_range (ys : List Int) : ∀ s : Int, 0 ≤ s → ys.all byteB = true → 0 ≤ ys.foldl (fun x c => 256 * x + c) s ∧ ys.foldl (fun x c => 256 * x + c) s < (s + 1) * 256 ^ ys.length := by
  induction ys with
  | nil => intro s hs _; simp; omega
  | cons c ys ih =>
    intro s hs h
    simp only [List.all_cons, Bool.and_eq_true] at h
    have h3 := h.1
    simp only [byteB, Bool.and_eq_true, decide_eq_true_eq] at h3
    obtain ⟨h1, h2⟩ := ih (256 * s + c) (by omega) h.2
    refine ⟨h1, Int.lt_of_lt_of_le h2 ?_⟩
    rw [List.length_cons, Int.pow_succ, Int.mul_comm (256 ^ ys.length) 256, ← Int.mul_assoc]
    exact Int.mul_le_mul_of_nonneg_right (by omega) (Int.pow_nonneg (by omega))
theorem numBE_range (ys : List Int) (h : ys.all byteB = true) : 0 ≤ numBE ys ∧ numBE ys < 256 ^ ys.length := by
  have := foldBE_range ys 0 (by omega) h
  simpa [numBE] using this

set_option maxHeartbeats 1000000 in
set_option maxRecDepth 100000 in
theorem field_out (A0 : Option Addr) (c0 : Nat) (l0 : List Int) (a n : Int) (w : World) (hn : 1 ≤ n) (hn7 : n ≤ 7) (hlen : (l0.length : Int) ≤ 9223372036854775807) (h : a < 0 ∨ a > (l0.length : Int) - n) :
    Calls Try.prog 116 #[.slice A0 l0.length c0, .int .i64 a, .int .i64 n] w fun e w' => e = .returned (.tuple #[.int .i64 0, .bool false]) ∧ w = w' := by
  by_cases h0 : a < 0
  · clear h
    go_enter Try.func116, Try.ntmps116
    go_wp2
    go_ret2
    exact ⟨rfl, rfl⟩
  · have h2 : (l0.length : Int) - n < a := by omega
    clear h
    go_enter Try.func116, Try.ntmps116
    go_wp2
    go_ret2
    exact ⟨rfl, rfl⟩

set_option maxHeartbeats 1000000 in
set_option maxRecDepth 100000 in
theorem field_in (A0 : Option Addr) (c0 : Nat) (l0 : List Int) (a n : Nat) (w : World) (hr0 : Kd.C (Kd.int .u8) w A0 l0.length l0) (hc0 : l0.length ≤ c0) (hn : 1 ≤ n) (hn7 : n ≤ 7) (hin : a + n ≤ l0.length) (hb : l0.all byteB = true) :
    Calls Try.prog 116 #[.slice A0 l0.length c0, .int .i64 (a : Int), .int .i64 (n : Int)] w fun e w' => e = .returned (.tuple #[.int .i64 (numBE ((l0.drop a).take n)), .bool true]) ∧ w = w' := by
  have hlen : (l0.length : Int) ≤ 9223372036854775807 := by have := hr0.2.1; omega
  obtain ⟨i0, hi, hz0, hz1, hz2⟩ := info_parts infoB
  obtain ⟨A1, hcut, hmid, hle⟩ := print_mid_int (P := Try.prog) (k := .u8) 26 5 Try.underlying26 hi hz1 A0 c0 l0 (a : Int) ((a : Int) + (n : Int)) (by omega) (by omega) (by omega) hc0
  have hR := hmid w (C_reads hr0)
  have e1 : (l0.take ((a : Int) + (n : Int)).toNat).drop (a : Int).toNat = (l0.drop a).take n := by
    rw [show ((a : Int) + (n : Int)).toNat = a + n by omega, Int.toNat_natCast, List.drop_take]
    congr 1
    omega
  rw [e1] at hcut hR
  obtain ⟨ys, hys⟩ : ∃ ys, (l0.drop a).take n = ys := ⟨_, rfl⟩
  rw [hys] at hcut hR ⊢
  have hyl : ys.length = n := by rw [← hys, List.length_take, List.length_drop]; omega
  have hyb : ys.all byteB = true := by
    rw [← hys, List.all_eq_true]
    intro x hx
    exact List.all_eq_true.1 hb x (List.mem_of_mem_drop (List.mem_of_mem_take hx))
  have HR := Aside0.mk hR
  have HY := Aside0.mk hyb
  have hyl1 : (ys.length : Int) ≤ 7 := by omega
  have HL := Aside0.mk hyl
  clear hi hz0 hz1 hz2 hmid hle hr0 hc0 hb e1 hys hyb hR hyl
  go_enter Try.func116, Try.ntmps116
  go_wp2
  go_loop [8, 28] (fun v i => ∃ j : Nat, i = .int .i64 (j : Int) ∧ j ≤ ys.length ∧ v = .int .i64 (numBE (ys.take j))) (fun _ i => ys.length - (intOf i).toNat)
  case atStart => exact ⟨0, rfl, by omega, rfl⟩
  case round =>
    obtain ⟨j, rfl, hj, rfl⟩ := hrel
    by_cases hlt : j < ys.length
    · obtain ⟨ad, had, hcell⟩ := HR.out.at_ (j : Int) (by omega) (by omega)
      subst had
      simp only [Int.toNat_natCast] at hcell
      have hrd : rd ys (j : Int) = ys[j] := by simp [rd, hlt]
      have hbj : 0 ≤ rd ys (j : Int) ∧ rd ys (j : Int) ≤ 255 := by
        rw [hrd]
        have := List.all_eq_true.1 HY.out ys[j] (List.getElem_mem hlt)
        simpa [byteB] using this
      have hrg := numBE_range (ys.take j) (List.all_eq_true.2 fun x hx => List.all_eq_true.1 HY.out x (List.mem_of_mem_take hx))
      have hrg2 : numBE (ys.take j) < 36028797018963968 := by
        have h1 : (ys.take j).length ≤ 6 := by rw [List.length_take]; omega
        have h2 : (256 : Int) ^ (ys.take j).length ≤ 256 ^ 6 := by exact_mod_cast Nat.pow_le_pow_right (by omega) h1
        have h3 : (256 : Int) ^ 6 = 281474976710656 := by decide
        omega
      have hor := or_byte (numBE (ys.take j)) (rd ys (j : Int)) hrg.1 hrg2 hbj.1 hbj.2
      have HS := Aside0.mk (show numBE (ys.take (j + 1)) = 256 * numBE (ys.take j) + rd ys (j : Int) by
        rw [List.take_succ_eq_append_getElem hlt, numBE_snoc, hrd])
      obtain ⟨hb0, hb1⟩ := hbj
      obtain ⟨hg0, hg1⟩ := hrg
      clear hrd hg1
      go_wp2
      go_round
      case rel => exact ⟨j + 1, by go_num, by omega, by rw [HS.out]⟩
      case measure => simp [intOf]; omega
    · go_wp2
      go_ret2
      exact ⟨by rw [List.take_of_length_le (by omega)]; rfl, rfl⟩

theorem octets_field.calls (A0 : Option Addr) (c0 : Nat) (l0 : List Int) (a1 : Int) (a2 : Int) (r1 : Int) (r2 : Bool) (w : World) (hr0 : Kd.C (Kd.int .u8) w A0 l0.length l0) (hc0 : l0.length ≤ c0) (h : octets_field.f l0 a1 a2 = some (r1, r2)) :
    Calls Try.prog 116 #[.slice A0 l0.length c0, .int .i64 a1, .int .i64 a2] w fun e w' => e = .returned (.tuple #[.int .i64 r1, .bool r2]) ∧ Drawn0 w w' := by
  have hlen := hr0.2.1
  unfold octets_field.f at h
  split at h
  · rename_i hc
    obtain ⟨hb, hn, hn7⟩ := hc
    split at h
    · rename_i ho
      simp only [Option.some.injEq, Prod.mk.injEq] at h
      obtain ⟨rfl, rfl⟩ := h
      exact (field_out A0 c0 l0 a1 a2 w hn hn7 (by omega) ho).mono fun e w' ⟨he, hw⟩ => ⟨he, hw ▸ Drawn0.refl _⟩
    · rename_i ho
      simp only [Option.some.injEq, Prod.mk.injEq] at h
      obtain ⟨rfl, rfl⟩ := h
      obtain ⟨a, rfl⟩ := Int.eq_ofNat_of_zero_le (a := a1) (by omega)
      obtain ⟨n, rfl⟩ := Int.eq_ofNat_of_zero_le (a := a2) (by omega)
      simp only [Int.toNat_natCast]
      exact (field_in A0 c0 l0 a n w hr0 hc0 (by omega) (by omega) (by omega) hb).mono fun e w' ⟨he, hw⟩ => ⟨he, hw ▸ Drawn0.refl _⟩
  · cases h
end Go.Proofs.Ytmppdgjnibamlab.Pag
