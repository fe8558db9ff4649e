/- Plain laws for OctetsBack: what is put is read at its place. -/
import Derived.Test.YtmppdgjnibamlaaO4B
namespace Go.Proofs.Ytmppdgjnibamlaa.Pag
open Go.RowKit Go.Proofs.YtmppdgjnibamlaaW.PrintWords
set_option linter.unusedVariables false
set_option linter.unusedSimpArgs false

theorem be_length (x : Int) (n : Nat) : (be x n).length = n := by simp [be]
theorem be1 (x : Int) : be x 1 = [x % 256] := by simp [be]
theorem be2 (x : Int) : be x 2 = [x / 256 % 256, x % 256] := by simp [be, List.range_succ]
theorem be4 (x : Int) : be x 4 = [x / 16777216 % 256, x / 65536 % 256, x / 256 % 256, x % 256] := by simp [be, List.range_succ]
theorem byteB_mod (x : Int) : byteB (x % 256) = true := by simp [byteB]; omega
theorem be_bytes (x : Int) (n : Nat) : (be x n).all byteB = true := by
  rw [List.all_eq_true]
  intro c hc
  simp only [be, List.mem_map] at hc
  obtain ⟨i, _, rfl⟩ := hc
  exact byteB_mod _

def i16s (x : Int) : Int := wrap64 (IntKind.i16.wrap x)
theorem i16s_range (x : Int) : -32768 ≤ i16s x ∧ i16s x ≤ 32767 := by
  unfold i16s wrap64
  simp only [IntKind.wrap, IntKind.bits, IntKind.signed]
  simp
  omega
def entry (x : Int) : List Int := be x 4 ++ be (i16s x) 2 ++ be (x % 256) 1
def back (l : List Int) (j : Nat) : List Int := (l.take j).flatMap entry
def placesOf (j : Nat) : List Int := (List.range j).map fun k : Nat => 7 * (k : Int)
theorem rd_mem {l : List Int} {j : Nat} (h : j < l.length) : rd l (j : Int) ∈ l := by
  have : rd l (j : Int) = l[j] := by simp [rd, h]
  rw [this]
  exact List.getElem_mem h
theorem entry_length (x : Int) : (entry x).length = 7 := by simp [entry, be_length]
theorem back_succ (l : List Int) (j : Nat) (h : j < l.length) : back l (j + 1) = back l j ++ entry (rd l (j : Int)) := by
  unfold back
  rw [List.take_succ_eq_append_getElem h, List.flatMap_append]
  simp [rd, h]
theorem back_length (l : List Int) (j : Nat) (h : j ≤ l.length) : (back l j).length = 7 * j := by
  induction j with
  | zero => simp [back]
  | succ j ih => rw [back_succ l j (by omega), List.length_append, ih (by omega), entry_length]; omega
theorem places_length (j : Nat) : (placesOf j).length = j := by simp [placesOf]
theorem places_succ (j : Nat) : placesOf (j + 1) = placesOf j ++ [7 * (j : Int)] := by simp [placesOf, List.range_succ]
theorem places_rd (n j : Nat) (h : j < n) : rd (placesOf n) (j : Int) = 7 * (j : Int) := by simp [rd, placesOf, h]

theorem over_small {B : List Int} (h : B.length ≤ 1048576) : over false B = false := by simp [over]; omega
/-- What a round puts. -/
theorem round_puts (B : List Int) (x : Int) (hB : B.length ≤ 1000000) (h0 : -2147483648 ≤ x) (h1 : x ≤ 2147483647) :
    putB (putF (putF false B x 4) (putB false B x 4) (i16s x) 2) (putB (putF false B x 4) (putB false B x 4) (i16s x) 2) (x % 256) 1 = B ++ entry x ∧
    putF (putF (putF false B x 4) (putB false B x 4) (i16s x) 2) (putB (putF false B x 4) (putB false B x 4) (i16s x) 2) (x % 256) 1 = false := by
  have r := i16s_range x
  have e1 := putB_ok (over_small (B := B) (by omega)) (x := x) (n := 4) (by omega) (by omega)
  have f1 := putF_ok (over_small (B := B) (by omega)) (x := x) (n := 4) (by omega) (by omega)
  rw [e1, f1]
  have l1 : (B ++ be x 4).length ≤ 1048576 := by rw [List.length_append, be_length]; omega
  have e2 := putB_ok (over_small l1) (x := i16s x) (n := 2) (by omega) (by omega)
  have f2 := putF_ok (over_small l1) (x := i16s x) (n := 2) (by omega) (by omega)
  rw [e2, f2]
  have l2 : (B ++ be x 4 ++ be (i16s x) 2).length ≤ 1048576 := by simp only [List.length_append, be_length]; omega
  have e3 := putB_ok (over_small l2) (x := x % 256) (n := 1) (by omega) (by omega)
  have f3 := putF_ok (over_small l2) (x := x % 256) (n := 1) (by omega) (by omega)
  rw [e3, f3]
  exact ⟨by simp [entry, List.append_assoc], rfl⟩

theorem all_append {a b : List Int} (h1 : a.all byteB = true) (h2 : b.all byteB = true) : (a ++ b).all byteB = true := by simp [List.all_append, h1, h2]
theorem entry_bytes (x : Int) : (entry x).all byteB = true := all_append (all_append (be_bytes _ _) (be_bytes _ _)) (be_bytes _ _)
theorem back_bytes (l : List Int) (j : Nat) (h : j ≤ l.length) : (back l j).all byteB = true := by
  induction j with
  | zero => simp [back]
  | succ j ih => rw [back_succ l j (by omega)]; exact all_append (ih (by omega)) (entry_bytes _)
theorem bytesOf_bytes (s : ByteArray) : (bytesOf s).all byteB = true := by
  rw [List.all_eq_true]
  intro c hc
  simp only [bytesOf, List.mem_map] at hc
  obtain ⟨b, _, rfl⟩ := hc
  have := b.toNat_lt
  simp [byteB]
  omega
/-- The seven bytes at a place. -/
theorem back_at (l : List Int) (n j : Nat) (hn : n ≤ l.length) (h : j < n) : ∀ t : List Int, ∃ u, (back l n ++ t).drop (7 * j) = entry (rd l (j : Int)) ++ u := by
  induction n with
  | zero => omega
  | succ n ih =>
    intro t
    rw [back_succ l n (by omega)]
    rcases Nat.lt_or_ge j n with hj | hj
    · obtain ⟨u, hu⟩ := ih (by omega) hj (entry (rd l (n : Int)) ++ t)
      exact ⟨u, by rw [List.append_assoc]; exact hu⟩
    · have : j = n := by omega
      subst this
      have hl := back_length l j (by omega)
      refine ⟨t, ?_⟩
      rw [List.append_assoc, ← hl, List.drop_left]
theorem numBE4 (a b c d : Int) : numBE [a, b, c, d] = ((a * 256 + b) * 256 + c) * 256 + d := by simp [numBE]; omega
theorem numBE2 (a b : Int) : numBE [a, b] = a * 256 + b := by simp [numBE]; omega
theorem numBE1 (a : Int) : numBE [a] = a := by simp [numBE]

section
variable (l : List Int) (t : List Int) (j : Nat)
theorem back_I32 (hj : j < l.length) (ht : t.all byteB = true) (h0 : -2147483648 ≤ rd l (j : Int)) (h1 : rd l (j : Int) ≤ 2147483647) : octets_I32.f (back l l.length ++ t) (7 * (j : Int)) = some (rd l (j : Int), true) := by
  obtain ⟨u, hu⟩ := back_at l l.length j (Nat.le_refl _) hj t
  have hl := back_length l l.length (Nat.le_refl _)
  have ha := all_append (back_bytes l l.length (Nat.le_refl _)) ht
  have hlen : (back l l.length ++ t).length = 7 * l.length + t.length := by rw [List.length_append, hl]
  unfold octets_I32.f octets_field.f
  rw [if_pos ⟨ha, by omega, by omega⟩, if_neg (by rw [hlen]; omega), show (7 * (j : Int)).toNat = 7 * j by omega, hu]
  have e : (entry (rd l (j : Int)) ++ u).take (4 : Int).toNat = be (rd l (j : Int)) 4 := by simp [entry, be4]
  rw [e, be4, numBE4]
  simp only [Option.map_some, sg, Option.some.injEq, Prod.mk.injEq, and_true]
  split <;> omega
theorem back_I16 (hj : j < l.length) (ht : t.all byteB = true) : octets_I16.f (back l l.length ++ t) (7 * (j : Int) + 4) = some (i16s (rd l (j : Int)), true) := by
  obtain ⟨u, hu⟩ := back_at l l.length j (Nat.le_refl _) hj t
  have hl := back_length l l.length (Nat.le_refl _)
  have ha := all_append (back_bytes l l.length (Nat.le_refl _)) ht
  have hlen : (back l l.length ++ t).length = 7 * l.length + t.length := by rw [List.length_append, hl]
  have r := i16s_range (rd l (j : Int))
  unfold octets_I16.f octets_field.f
  rw [if_pos ⟨ha, by omega, by omega⟩, if_neg (by rw [hlen]; omega), show (7 * (j : Int) + 4).toNat = 7 * j + 4 by omega, ← List.drop_drop, hu]
  have e : ((entry (rd l (j : Int)) ++ u).drop 4).take (2 : Int).toNat = be (i16s (rd l (j : Int))) 2 := by simp [entry, be4, be2]
  rw [e, be2, numBE2]
  simp only [Option.map_some, sg, Option.some.injEq, Prod.mk.injEq, and_true]
  split <;> omega
theorem back_U8 (hj : j < l.length) (ht : t.all byteB = true) : octets_U8.f (back l l.length ++ t) (7 * (j : Int) + 6) = some (rd l (j : Int) % 256, true) := by
  obtain ⟨u, hu⟩ := back_at l l.length j (Nat.le_refl _) hj t
  have hl := back_length l l.length (Nat.le_refl _)
  have ha := all_append (back_bytes l l.length (Nat.le_refl _)) ht
  have hlen : (back l l.length ++ t).length = 7 * l.length + t.length := by rw [List.length_append, hl]
  unfold octets_U8.f octets_field.f
  rw [if_pos ⟨ha, by omega, by omega⟩, if_neg (by rw [hlen]; omega), show (7 * (j : Int) + 6).toNat = 7 * j + 6 by omega, ← List.drop_drop, hu]
  have e : ((entry (rd l (j : Int)) ++ u).drop 6).take (1 : Int).toNat = be (rd l (j : Int) % 256) 1 := by simp [entry, be4, be2, be1]
  rw [e, be1, numBE1]
  simp
end
theorem str_bytes (s : ByteArray) : strOfNums (bytesOf s) = s := by
  unfold strOfNums bytesOf
  rw [List.map_map]
  have : ((fun n : Int => UInt8.ofNat n.toNat) ∘ fun b : UInt8 => (b.toNat : Int)) = id := by
    funext b
    simp
  rw [this, List.map_id]
theorem tag_yes (B : List Int) (s : ByteArray) (hl : B.length ≤ 1000000) (hg : good s = true) : octets_Tag.f (B ++ bytesOf s) (B.length : Int) = some (s, true) := by
  have hs : s.size = 4 := by simp [good] at hg; exact hg.2
  have h4 := bytesOf_length s
  unfold octets_Tag.f
  rw [if_pos (by rw [List.length_append]; omega), if_neg (by rw [List.length_append]; omega), Int.toNat_natCast, List.drop_left, List.take_of_length_le (by omega), str_bytes, if_pos hg]
theorem tag_no (B : List Int) (hl : B.length ≤ 1000000) : octets_Tag.f B (B.length : Int) = some (⟨#[]⟩, false) := by
  unfold octets_Tag.f
  rw [if_pos (by omega), if_pos (by omega)]
theorem all_ok (B : List Int) (h : B.length ≤ 1048576) : allE false B [] = 0 ∧ allB false B [] = B := by
  have : ¬ 1048576 < B.length := by omega
  simp [allE, allB, this]
end Go.Proofs.Ytmppdgjnibamlaa.Pag
