/- Contracts of the readers of octets: U8, U16, U32, I16, I32, Cut, Tag. -/
import Derived.Test.YtmppdgjnibamlabPgG
import Derived.Test.YtmppdgjnibamlabPgI
namespace Go.Proofs.Ytmppdgjnibamlab.Pag
open Go.RowKit Go.Proofs.YtmppdgjnibamlabW.PrintWords
set_option linter.unusedVariables false
set_option linter.unusedSimpArgs false

def octets_U8.f (l0 : List Int) (a1 : Int) : Option (Int × Bool) := octets_field.f l0 a1 1
def octets_U16.f (l0 : List Int) (a1 : Int) : Option (Int × Bool) := octets_field.f l0 a1 2
def octets_U32.f (l0 : List Int) (a1 : Int) : Option (Int × Bool) := octets_field.f l0 a1 4
def sg (m : Int) (p : Int × Bool) : Int × Bool := (if p.1 ≥ m then p.1 - 2 * m else p.1, p.2)
def octets_I16.f (l0 : List Int) (a1 : Int) : Option (Int × Bool) := (octets_field.f l0 a1 2).map (sg 32768)
def octets_I32.f (l0 : List Int) (a1 : Int) : Option (Int × Bool) := (octets_field.f l0 a1 4).map (sg 2147483648)

set_option maxRecDepth 100000 in
theorem field_range {l0 : List Int} {a1 a2 : Int} {r1 : Int} {r2 : Bool} (h : octets_field.f l0 a1 a2 = some (r1, r2)) : 0 ≤ r1 ∧ r1 < 72057594037927936 := by
  unfold octets_field.f at h
  split at h
  · rename_i hc
    obtain ⟨hb, hn, hn7⟩ := hc
    split at h
    · simp only [Option.some.injEq, Prod.mk.injEq] at h
      obtain ⟨rfl, rfl⟩ := h
      omega
    · simp only [Option.some.injEq, Prod.mk.injEq] at h
      obtain ⟨rfl, rfl⟩ := h
      have := numBE_range ((l0.drop a1.toNat).take a2.toNat) (List.all_eq_true.2 fun x hx => List.all_eq_true.1 hb x (List.mem_of_mem_drop (List.mem_of_mem_take hx)))
      have h1 : ((l0.drop a1.toNat).take a2.toNat).length ≤ 7 := by rw [List.length_take]; omega
      have h2 : (256 : Int) ^ ((l0.drop a1.toNat).take a2.toNat).length ≤ 256 ^ 7 := by exact_mod_cast Nat.pow_le_pow_right (by omega) h1
      have h3 : (256 : Int) ^ 7 = 72057594037927936 := by decide
      omega
  · cases h

theorem octets_U8.calls (A0 : Option Addr) (c0 : Nat) (l0 : List Int) (a1 : Int) (r1 : Int) (r2 : Bool) (w : World) (hr0 : Kd.C (Kd.int .u8) w A0 l0.length l0) (hc0 : l0.length ≤ c0) (h : octets_U8.f l0 a1 = some (r1, r2)) :
    Calls Try.prog 100 #[.slice A0 l0.length c0, .int .i64 a1] w fun e w' => e = .returned (.tuple #[.int .i64 r1, .bool r2]) ∧ Drawn0 w w' := by
  have HC := Aside0.mk (octets_field.calls A0 c0 l0 a1 1 r1 r2 w hr0 hc0 h)
  clear hr0 hc0 h
  go_enter Try.func100, Try.ntmps100
  go_wp2_with (go_at_call 116; refine HC.out.mono ?_; rintro e w' ⟨rfl, hd⟩; obtain ⟨nd, rfl⟩ := hd.out)
  go_ret2
  exact ⟨rfl, (Drawn0.refl _).step _⟩

theorem octets_U16.calls (A0 : Option Addr) (c0 : Nat) (l0 : List Int) (a1 : Int) (r1 : Int) (r2 : Bool) (w : World) (hr0 : Kd.C (Kd.int .u8) w A0 l0.length l0) (hc0 : l0.length ≤ c0) (h : octets_U16.f l0 a1 = some (r1, r2)) :
    Calls Try.prog 89 #[.slice A0 l0.length c0, .int .i64 a1] w fun e w' => e = .returned (.tuple #[.int .i64 r1, .bool r2]) ∧ Drawn0 w w' := by
  have HC := Aside0.mk (octets_field.calls A0 c0 l0 a1 2 r1 r2 w hr0 hc0 h)
  clear hr0 hc0 h
  go_enter Try.func89, Try.ntmps89
  go_wp2_with (go_at_call 116; refine HC.out.mono ?_; rintro e w' ⟨rfl, hd⟩; obtain ⟨nd, rfl⟩ := hd.out)
  go_ret2
  exact ⟨rfl, (Drawn0.refl _).step _⟩

theorem octets_U32.calls (A0 : Option Addr) (c0 : Nat) (l0 : List Int) (a1 : Int) (r1 : Int) (r2 : Bool) (w : World) (hr0 : Kd.C (Kd.int .u8) w A0 l0.length l0) (hc0 : l0.length ≤ c0) (h : octets_U32.f l0 a1 = some (r1, r2)) :
    Calls Try.prog 91 #[.slice A0 l0.length c0, .int .i64 a1] w fun e w' => e = .returned (.tuple #[.int .i64 r1, .bool r2]) ∧ Drawn0 w w' := by
  have HC := Aside0.mk (octets_field.calls A0 c0 l0 a1 4 r1 r2 w hr0 hc0 h)
  clear hr0 hc0 h
  go_enter Try.func91, Try.ntmps91
  go_wp2_with (go_at_call 116; refine HC.out.mono ?_; rintro e w' ⟨rfl, hd⟩; obtain ⟨nd, rfl⟩ := hd.out)
  go_ret2
  exact ⟨rfl, (Drawn0.refl _).step _⟩

set_option maxHeartbeats 1000000 in
set_option maxRecDepth 100000 in
theorem signed2_calls (A0 : Option Addr) (c0 : Nat) (l0 : List Int) (a1 : Int) (r1 : Int) (r2 : Bool) (w : World) (hr0 : Kd.C (Kd.int .u8) w A0 l0.length l0) (hc0 : l0.length ≤ c0) (h : octets_field.f l0 a1 2 = some (r1, r2)) :
    Calls Try.prog 99 #[.slice A0 l0.length c0, .int .i64 a1, .int .i64 2] w fun e w' => e = .returned (.tuple #[.int .i64 (sg 32768 (r1, r2)).1, .bool r2]) ∧ Drawn0 w w' := by
  have HC := Aside0.mk (octets_field.calls A0 c0 l0 a1 2 r1 r2 w hr0 hc0 h)
  obtain ⟨g0, g1⟩ := field_range h
  clear hr0 hc0 h
  by_cases hm : 32768 ≤ r1
  · have e1 := Aside0.mk (show (sg 32768 (r1, r2)).1 = r1 - 65536 by simp [sg, hm])
    go_enter Try.func99, Try.ntmps99
    go_wp2_with (go_at_call 116; refine HC.out.mono ?_; rintro e w' ⟨rfl, hd⟩; obtain ⟨nd, rfl⟩ := hd.out)
    go_ret2
    exact ⟨by rw [e1.out]; rfl, (Drawn0.refl _).step _⟩
  · have e1 := Aside0.mk (show (sg 32768 (r1, r2)).1 = r1 by simp [sg, hm])
    go_enter Try.func99, Try.ntmps99
    go_wp2_with (go_at_call 116; refine HC.out.mono ?_; rintro e w' ⟨rfl, hd⟩; obtain ⟨nd, rfl⟩ := hd.out)
    go_ret2
    exact ⟨by rw [e1.out]; rfl, (Drawn0.refl _).step _⟩

theorem octets_I16.calls (A0 : Option Addr) (c0 : Nat) (l0 : List Int) (a1 : Int) (r1 : Int) (r2 : Bool) (w : World) (hr0 : Kd.C (Kd.int .u8) w A0 l0.length l0) (hc0 : l0.length ≤ c0) (h : octets_I16.f l0 a1 = some (r1, r2)) :
    Calls Try.prog 56 #[.slice A0 l0.length c0, .int .i64 a1] w fun e w' => e = .returned (.tuple #[.int .i64 r1, .bool r2]) ∧ Drawn0 w w' := by
  unfold octets_I16.f at h
  obtain ⟨⟨x, b⟩, hx, he⟩ := Option.map_eq_some_iff.1 h
  have HC := Aside0.mk (signed2_calls A0 c0 l0 a1 x b w hr0 hc0 hx)
  have hb : b = r2 := by have := congrArg Prod.snd he; simpa [sg] using this
  subst hb
  have E := Aside0.mk he
  clear hr0 hc0 h hx he
  go_enter Try.func56, Try.ntmps56
  go_wp2_with (go_at_call 99; refine HC.out.mono ?_; rintro e w' ⟨rfl, hd⟩; obtain ⟨nd, rfl⟩ := hd.out)
  go_ret2
  exact ⟨by rw [E.out]; rfl, (Drawn0.refl _).step _⟩

set_option maxHeartbeats 1000000 in
set_option maxRecDepth 100000 in
theorem signed4_calls (A0 : Option Addr) (c0 : Nat) (l0 : List Int) (a1 : Int) (r1 : Int) (r2 : Bool) (w : World) (hr0 : Kd.C (Kd.int .u8) w A0 l0.length l0) (hc0 : l0.length ≤ c0) (h : octets_field.f l0 a1 4 = some (r1, r2)) :
    Calls Try.prog 99 #[.slice A0 l0.length c0, .int .i64 a1, .int .i64 4] w fun e w' => e = .returned (.tuple #[.int .i64 (sg 2147483648 (r1, r2)).1, .bool r2]) ∧ Drawn0 w w' := by
  have HC := Aside0.mk (octets_field.calls A0 c0 l0 a1 4 r1 r2 w hr0 hc0 h)
  obtain ⟨g0, g1⟩ := field_range h
  clear hr0 hc0 h
  by_cases hm : 2147483648 ≤ r1
  · have e1 := Aside0.mk (show (sg 2147483648 (r1, r2)).1 = r1 - 4294967296 by simp [sg, hm])
    go_enter Try.func99, Try.ntmps99
    go_wp2_with (go_at_call 116; refine HC.out.mono ?_; rintro e w' ⟨rfl, hd⟩; obtain ⟨nd, rfl⟩ := hd.out)
    go_ret2
    exact ⟨by rw [e1.out]; rfl, (Drawn0.refl _).step _⟩
  · have e1 := Aside0.mk (show (sg 2147483648 (r1, r2)).1 = r1 by simp [sg, hm])
    go_enter Try.func99, Try.ntmps99
    go_wp2_with (go_at_call 116; refine HC.out.mono ?_; rintro e w' ⟨rfl, hd⟩; obtain ⟨nd, rfl⟩ := hd.out)
    go_ret2
    exact ⟨by rw [e1.out]; rfl, (Drawn0.refl _).step _⟩



def octets_Cut.f (l0 : List Int) (a1 a2 : Int) : Option (List Int × Bool) :=
  if l0.length ≤ 140737488355328 ∧ a2 ≤ 9223372036854775807 then (if a2 < 0 ∨ a1 < 0 ∨ a1 > (l0.length : Int) - a2 then some ([], false) else some ((l0.drop a1.toNat).take a2.toNat, true)) else none

set_option maxHeartbeats 1000000 in
set_option maxRecDepth 100000 in
theorem octets_Cut.calls (A0 : Option Addr) (c0 : Nat) (l0 : List Int) (a1 : Int) (a2 : Int) (r1 : List Int) (r2 : Bool) (w : World) (hr0 : Kd.C (Kd.int .u8) w A0 l0.length l0) (hc0 : l0.length ≤ c0) (h : octets_Cut.f l0 a1 a2 = some (r1, r2)) :
    Calls Try.prog 92 #[.slice A0 l0.length c0, .int .i64 a1, .int .i64 a2] w fun e w' => ∃ v0_ : Value, e = .returned (.tuple #[v0_, .bool r2]) ∧ Kd.R (Kd.int .u8) 5 w' w.heap.size (fun _ => True) v0_ r1 ∧ Below w.heap.size w w' := by
  have HN := Aside0.mk (Kd.R_nil (Kd.int .u8) 5 w w.heap.size (fun _ => True))
  unfold octets_Cut.f at h
  split at h
  · rename_i hc
    obtain ⟨hl, ha⟩ := hc
    have hlen : (l0.length : Int) ≤ 9223372036854775807 := by omega
    split at h
    · rename_i ho
      simp only [Option.some.injEq, Prod.mk.injEq] at h
      obtain ⟨rfl, rfl⟩ := h
      by_cases h1 : a2 < 0
      · clear ho hl hr0 hc0
        go_enter Try.func92, Try.ntmps92
        go_wp2
        go_ret2
        exact ⟨_, rfl, HN.out, Below.refl _ _⟩
      · by_cases h2 : a1 < 0
        · clear ho hl hr0 hc0
          go_enter Try.func92, Try.ntmps92
          go_wp2
          go_ret2
          exact ⟨_, rfl, HN.out, Below.refl _ _⟩
        · have h3 : (l0.length : Int) - a2 < a1 := by omega
          clear ho hl hr0 hc0
          go_enter Try.func92, Try.ntmps92
          go_wp2
          go_ret2
          exact ⟨_, rfl, HN.out, Below.refl _ _⟩
    · rename_i ho
      simp only [Option.some.injEq, Prod.mk.injEq] at h
      obtain ⟨rfl, rfl⟩ := h
      obtain ⟨a, rfl⟩ := Int.eq_ofNat_of_zero_le (a := a1) (by omega)
      obtain ⟨n, rfl⟩ := Int.eq_ofNat_of_zero_le (a := a2) (by omega)
      simp only [Int.toNat_natCast]
      have hin : a + n ≤ l0.length := by omega
      obtain ⟨i0, hi, hz0, hz1, hz2⟩ := info_parts infoB
      obtain ⟨A1, hcut, hmid, hle⟩ := print_mid_int (P := Try.prog) (k := .u8) 26 5 Try.underlying26 hi hz1 A0 c0 l0 (a : Int) ((a : Int) + (n : Int)) (by omega) (by omega) (by omega) hc0
      have hR := hmid w (C_reads hr0)
      have e1 : (l0.take ((a : Int) + (n : Int)).toNat).drop (a : Int).toNat = (l0.drop a).take n := by
        rw [show ((a : Int) + (n : Int)).toNat = a + n by omega, Int.toNat_natCast, List.drop_take]
        congr 1
        omega
      rw [e1] at hcut hR hle
      obtain ⟨ys, hys⟩ : ∃ ys, (l0.drop a).take n = ys := ⟨_, rfl⟩
      rw [hys] at hcut hR hle ⊢
      have hyl : ys.length ≤ l0.length := by rw [← hys, List.length_take, List.length_drop]; omega
      have HK := Aside0.mk (slices_Clone_byte_byte.calls A1 _ ys ys w (reads_C hR) hle (by unfold slices_Clone_byte_byte.f; rw [if_pos (by omega)]))
      have k1 : ¬ ((n : Int) < 0) := by omega
      have k2 : ¬ ((a : Int) < 0) := by omega
      clear hi hz0 hz1 hz2 hmid hle hr0 hc0 e1 hys hR hyl hl ho
      go_enter Try.func92, Try.ntmps92
      go_wp2_with (go_at_call 84; refine HK.out.mono ?_; rintro e w' ⟨v0, rfl, hR, hB⟩; have HR := Aside0.mk hR; have HB := Aside0.mk hB; clear hR hB)
      go_ret2
      exact ⟨_, rfl, HR.out, HB.out⟩
  · cases h

def octets_Tag.f (l0 : List Int) (a1 : Int) : Option (ByteArray × Bool) :=
  if l0.length ≤ 140737488355328 then (if a1 < 0 ∨ a1 > (l0.length : Int) - 4 then some (⟨#[]⟩, false) else if good (strOfNums ((l0.drop a1.toNat).take 4)) = true then some (strOfNums ((l0.drop a1.toNat).take 4), true) else some (⟨#[]⟩, false)) else none

set_option maxHeartbeats 1000000 in
set_option maxRecDepth 100000 in
theorem octets_Tag.calls (A0 : Option Addr) (c0 : Nat) (l0 : List Int) (a1 : Int) (r1 : ByteArray) (r2 : Bool) (w : World) (hr0 : Kd.C (Kd.int .u8) w A0 l0.length l0) (hc0 : l0.length ≤ c0) (h : octets_Tag.f l0 a1 = some (r1, r2)) :
    Calls Try.prog 90 #[.slice A0 l0.length c0, .int .i64 a1] w fun e w' => e = .returned (.tuple #[.string r1, .bool r2]) ∧ Below w.heap.size w w' := by
  unfold octets_Tag.f at h
  split at h
  · rename_i hl
    split at h
    · rename_i ho
      simp only [Option.some.injEq, Prod.mk.injEq] at h
      obtain ⟨rfl, rfl⟩ := h
      have HC := Aside0.mk (octets_Cut.calls A0 c0 l0 a1 4 [] false w hr0 hc0 (by unfold octets_Cut.f; rw [if_pos ⟨hl, by omega⟩, if_pos (.inr ho)]))
      clear hr0 hc0 hl ho
      go_enter Try.func90, Try.ntmps90
      go_wp2_with (go_at_call 92; refine HC.out.mono ?_; rintro e w' ⟨v0, rfl, hR, hB⟩; have HB := Aside0.mk hB; clear hR hB)
      go_ret2
      exact ⟨rfl, HB.out⟩
    · rename_i ho
      obtain ⟨ys, hys⟩ : ∃ ys, (l0.drop a1.toNat).take 4 = ys := ⟨_, rfl⟩
      rw [hys] at h
      have hyl : ys.length ≤ 4 := by rw [← hys, List.length_take]; omega
      have hsz : (strOfNums ys).size ≤ 9223372036854775807 := by rw [strOfNums_size]; omega
      have HC := Aside0.mk (octets_Cut.calls A0 c0 l0 a1 4 ys true w hr0 hc0 (by unfold octets_Cut.f; rw [if_pos ⟨hl, by omega⟩, if_neg (by omega), show (4 : Int).toNat = 4 from rfl, hys]))
      have HG := Aside0.mk (fun W => Good_calls (strOfNums ys) W hsz)
      clear hr0 hc0 hl ho hys hyl hsz
      by_cases hg : good (strOfNums ys) = true
      · rw [if_pos hg] at h
        simp only [Option.some.injEq, Prod.mk.injEq] at h
        obtain ⟨rfl, rfl⟩ := h
        go_enter Try.func90, Try.ntmps90
        go_wp2_with (first | (go_at_call 92; refine HC.out.mono ?_; rintro e w' ⟨v0, rfl, hR, hB⟩; have HB := Aside0.mk hB; have hcv := own_string (P := Try.prog) Try.underlying26 Try.underlying5 Try.underlying9 (R_own1 hR).1; clear hR hB) | (go_at_call 87; refine (HG.out _).mono ?_; rintro e w' ⟨rfl, rfl⟩))
        go_ret2
        exact ⟨rfl, HB.out⟩
      · have hg' : good (strOfNums ys) = false := by simpa using hg
        rw [if_neg hg] at h
        simp only [Option.some.injEq, Prod.mk.injEq] at h
        obtain ⟨rfl, rfl⟩ := h
        clear hg
        go_enter Try.func90, Try.ntmps90
        go_wp2_with (first | (go_at_call 92; refine HC.out.mono ?_; rintro e w' ⟨v0, rfl, hR, hB⟩; have HB := Aside0.mk hB; have hcv := own_string (P := Try.prog) Try.underlying26 Try.underlying5 Try.underlying9 (R_own1 hR).1; clear hR hB) | (go_at_call 87; refine (HG.out _).mono ?_; rintro e w' ⟨rfl, rfl⟩))
        go_ret2
        exact ⟨rfl, HB.out⟩
  · cases h
end Go.Proofs.Ytmppdgjnibamlab.Pag
