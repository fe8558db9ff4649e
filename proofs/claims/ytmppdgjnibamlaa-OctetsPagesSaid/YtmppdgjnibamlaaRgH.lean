/- foundrylaw04.act, whatever is done. -/
import Derived.Test.YtmppdgjnibamlaaRgG
namespace Go.Proofs.Ytmppdgjnibamlaa.Duo
open Go.RowKit Go.Proofs.YtmppdgjnibamlaaW.PrintWords
open Go.Proofs.Ytmppdgjnibamlaa.Pag (over putsB reads_C)
set_option linter.unusedVariables false
set_option linter.unusedSimpArgs false

section
variable {w : World} {base g1 g2 : Nat} {B Wt : List Int} {fl : Bool}
theorem bytes_C (W : World) (s : ByteArray) (hs : s.size ≤ 1000000) : Kd.C (Kd.int .u8) (Lib.bytesWorld W 5 s) (some ⟨W.heap.size, 0, none⟩) (bytesOf s).length (bytesOf s) := by
  have h := reads_C (bytes_reads W 5 s (by omega))
  rw [bytesOf_length]
  exact h
set_option maxHeartbeats 1000000 in
set_option maxRecDepth 100000 in
theorem act_PutBytes (h : Duo (fun _ => False) w base g1 B Wt fl g2 B Wt fl) (hI : InvW B Wt) (q : Nat) (hW : Wt.length ≤ q) (hq : q ≤ 1000000) (n m : Int) (s : ByteArray) (hs : s.size ≤ 1000000) :
    Calls Try.prog 45 #[.pointer (some ⟨g1, 0, none⟩), .pointer (some ⟨g2, 0, none⟩), .agg #[.int .i64 5, .int .i64 n, .int .i64 m, .string s]] w fun e w' => e = .returned (.bool true) ∧ Like w' base g1 g2 (q + 1) ∧ Below base w w' := by
  have HX := Aside0.mk (h.boxed (.cells #[.int .i64 5, .int .i64 n, .int .i64 m, .string s] 68))
  have HB := Aside0.mk ((Below.refl base w).alloc h.base_le (.cells #[.int .i64 5, .int .i64 n, .int .i64 m, .string s] 68))
  have HK := Aside0.mk (heap_alloc_new w (.cells #[.int .i64 5, .int .i64 n, .int .i64 m, .string s] 68))
  have HBL := Aside0.mk h.base_le
  have HI := Aside0.mk hI
  have HW := Aside0.mk hW
  have HS := Aside0.mk hs
  have kb := fun W => print_bytes (P := Try.prog) 9 25 5 Try.underlying9 Try.underlying25 Try.underlying5 s W
  have HP1 := Aside0.mk (fun (W : World) (c a : Nat) (ha : W.heap.size = a) (X : Nat → Prop) (hd : Duo X (Lib.bytesWorld W 5 s) base g1 B Wt fl g2 B Wt fl) => hd.one (f := 32) (args := #[.pointer (some ⟨g1, 0, none⟩), .slice (some ⟨a, 0, none⟩) s.size c]) (e0 := .returned (.tuple #[])) (B' := putsB fl B (bytesOf s)) (W' := Wt) (f' := fl) (fun ok1 hp => by
    have h := Pag.PutBytes_calls hp (some ⟨W.heap.size, 0, none⟩) c (bytesOf s) (bytes_C W s hs) (by rw [bytesOf_length]; omega)
    rw [bytesOf_length, ha] at h; exact h))
  have HP2 := Aside0.mk (fun (W : World) (c a : Nat) (ha : W.heap.size = a) (X : Nat → Prop) (B1 W1 : List Int) (f1 : Bool) (hd : Duo X (Lib.bytesWorld W 5 s) base g1 B1 W1 f1 g2 B Wt fl) => hd.two (f := 90) (args := #[.pointer (some ⟨g2, 0, none⟩), .slice (some ⟨a, 0, none⟩) s.size c]) (e0 := .returned (.tuple #[])) (B' := putsB fl B (bytesOf s)) (W' := Wt) (f' := fl) (fun ok1 hp => by
    have h := Rag.PutBytes_calls hp (some ⟨W.heap.size, 0, none⟩) c (bytesOf s) (bytes_C W s hs) (by rw [bytesOf_length]; omega)
    rw [bytesOf_length, ha] at h; exact h))
  clear h hI hW hq hs
  go_enter Try.func45, Try.ntmps45
  go_wp2_with (first
    | (go_at_call 32; refine (HP1.out _ _ _ (by simp) _ (HX.out.below (bytes_below (Below.refl _ _) (Nat.le_refl _) _ _))).mono ?_; rintro e w1 ⟨rfl, hd, hb, hk⟩; have HX1 := Aside0.mk hd; have HB1 := Aside0.mk ((bytes_below HB.out (by have := HBL.out; simp; omega) _ _).trans hb); have HK1 := Aside0.mk ((hk _ rfl).trans ((Lib.bytesWorld_at_old _ _ _ _ (by simp)).trans HK.out)); clear hd hb hk; have D0 := (blk_cell HK1.out 0); have D1 := (blk_cell HK1.out 1); have D2 := (blk_cell HK1.out 2); have D3 := (blk_cell HK1.out 3); simp at D0 D1 D2 D3)
    | (go_at_call 90; refine (HP2.out _ _ _ (by simp) _ _ _ _ (HX1.out.below (bytes_below (Below.refl _ _) (Nat.le_refl _) _ _))).mono ?_; rintro e w2 ⟨rfl, hd, hb, hk⟩; have HX2 := Aside0.mk hd; have HB2 := Aside0.mk ((bytes_below HB1.out (HX1.out.base_le) _ _).trans hb); clear hd hb hk))
  go_ret
  exact ⟨rfl, ⟨_, _, _, HX2.out.weaken, HI.out.grow (len_puts _ _ _), by have := HW.out; omega⟩, HB2.out⟩

set_option maxHeartbeats 1000000 in
set_option maxRecDepth 100000 in
theorem act_none (h : Duo (fun _ => False) w base g1 B Wt fl g2 B Wt fl) (hI : InvW B Wt) (q : Nat) (hW : Wt.length ≤ q) (k n m : Int) (s : ByteArray) (hk : k < 1 ∨ 8 < k) :
    Calls Try.prog 45 #[.pointer (some ⟨g1, 0, none⟩), .pointer (some ⟨g2, 0, none⟩), .agg #[.int .i64 k, .int .i64 n, .int .i64 m, .string s]] w fun e w' => e = .returned (.bool true) ∧ Like w' base g1 g2 (q + 1) ∧ Below base w w' := by
  have HX := Aside0.mk ((h.boxed (.cells #[.int .i64 k, .int .i64 n, .int .i64 m, .string s] 68)).weaken)
  have HB := Aside0.mk ((Below.refl base w).alloc h.base_le (.cells #[.int .i64 k, .int .i64 n, .int .i64 m, .string s] 68))
  have HI := Aside0.mk hI
  have HW := Aside0.mk hW
  have e1 : (k == 1) = false := by simp; omega
  have e2 : (k == 2) = false := by simp; omega
  have e3 : (k == 3) = false := by simp; omega
  have e4 : (k == 4) = false := by simp; omega
  have e5 : (k == 5) = false := by simp; omega
  have e6 : (k == 6) = false := by simp; omega
  have e7 : (k == 7) = false := by simp; omega
  have e8 : (k == 8) = false := by simp; omega
  clear h hI hW hk
  go_enter Try.func45, Try.ntmps45
  go_wp2
  go_ret
  exact ⟨rfl, ⟨_, _, _, HX.out, HI.out, by have := HW.out; omega⟩, HB.out⟩

theorem act_any {q : Nat} (h : Like w base g1 g2 q) (hq : q ≤ 1000000) (k n m : Int) (s : ByteArray) (hs : s.size ≤ 1000000) :
    Calls Try.prog 45 #[.pointer (some ⟨g1, 0, none⟩), .pointer (some ⟨g2, 0, none⟩), .agg #[.int .i64 k, .int .i64 n, .int .i64 m, .string s]] w fun e w' => e = .returned (.bool true) ∧ Like w' base g1 g2 (q + 1) ∧ Below base w w' := by
  obtain ⟨B, Wt, fl, hd, hI, hW⟩ := h
  by_cases hk : k < 1 ∨ 8 < k
  · exact act_none hd hI q hW k n m s hk
  · obtain rfl | rfl | rfl | rfl | rfl | rfl | rfl | rfl : k = 1 ∨ k = 2 ∨ k = 3 ∨ k = 4 ∨ k = 5 ∨ k = 6 ∨ k = 7 ∨ k = 8 := by omega
    · exact act_Put8 hd hI q hW hq n m s hs
    · exact act_Put16 hd hI q hW hq n m s hs
    · exact act_Put32 hd hI q hW hq n m s hs
    · exact act_PutTag hd hI q hW hq n m s hs
    · exact act_PutBytes hd hI q hW hq n m s hs
    · exact act_Later hd hI q hW hq n m s hs
    · exact act_Now hd hI q hW hq n m s hs
    · exact act_Pad hd hI q hW hq n m s hs
end
end Go.Proofs.Ytmppdgjnibamlaa.Duo
