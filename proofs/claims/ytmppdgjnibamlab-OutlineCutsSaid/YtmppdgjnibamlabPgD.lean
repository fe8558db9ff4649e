/- put of octets.Page at 1, 2 and 4 bytes: what fits is put, what does not makes the page fail. No condition but the page's length. -/
import Derived.Test.YtmppdgjnibamlabPgC
namespace Go.Proofs.Ytmppdgjnibamlab.Pag
open Go.RowKit Go.Proofs.YtmppdgjnibamlabW.PrintWords
set_option linter.unusedVariables false
set_option linter.unusedSimpArgs false

theorem u8_wrap (x : Int) : IntKind.u8.wrap x = x % 256 := by
  simp [IntKind.wrap, IntKind.bits, IntKind.signed]

set_option maxHeartbeats 400000 in
theorem put1_fail {w : World} {base g : Nat} {ok : Nat → Prop} {B Wt : List Int} {fl : Bool} (h : Pg w base ok g B Wt fl) (x : Int) (ho : over fl B = false) (hx : x < -128 ∨ 256 ≤ x) :
    Calls Try.prog 96 #[.pointer (some ⟨g, 0, none⟩), .int .i64 x, .int .i64 1] w fun e w' => e = .returned (.tuple #[]) ∧ Pst base ok w w' g B Wt true := by
  have HC := Aside0.mk (over_calls h)
  have HF := Aside0.mk (fail_calls h)
  clear h
  rcases hx with hx | hx
  · go_enter Try.func96, Try.ntmps96
    go_wp2_with (first | (go_at_call 112; refine HC.out.mono ?_; rintro e w' ⟨rfl, rfl⟩) | (go_at_call 113; refine HF.out.mono ?_; rintro e w' ⟨rfl, hP⟩))
    first | go_end0 | ((try simp only [Exit.inBlock, Exit.then]); refine bodyPost_ret (results_none rfl _ _ _) rfl ?_)
    exact ⟨rfl, hP⟩
  · go_enter Try.func96, Try.ntmps96
    go_wp2_with (first | (go_at_call 112; refine HC.out.mono ?_; rintro e w' ⟨rfl, rfl⟩) | (go_at_call 113; refine HF.out.mono ?_; rintro e w' ⟨rfl, hP⟩))
    first | go_end0 | ((try simp only [Exit.inBlock, Exit.then]); refine bodyPost_ret (results_none rfl _ _ _) rfl ?_)
    exact ⟨rfl, hP⟩

set_option maxHeartbeats 1000000 in
set_option maxRecDepth 100000 in
theorem put1_ok {w : World} {base g : Nat} {ok : Nat → Prop} {B Wt : List Int} {fl : Bool} (h : Pg w base ok g B Wt fl) (x : Int) (ho : over fl B = false) (hx0 : -128 ≤ x) (hx1 : x < 256) (hlen : B.length ≤ 10000000000) :
    Calls Try.prog 96 #[.pointer (some ⟨g, 0, none⟩), .int .i64 x, .int .i64 1] w fun e w' => e = .returned (.tuple #[]) ∧ Pst base ok w w' g (B ++ be x 1) Wt fl := by
  have HC := Aside0.mk (over_calls h)
  have HL := Aside0.mk hlen
  clear hlen
  go_enter Try.func96, Try.ntmps96
  go_wp2_with (go_at_call 112; refine HC.out.mono ?_; rintro e w' ⟨rfl, rfl⟩)
  go_loopw [6] (fun s w1 => ∃ s0 : Int, s = .int .i64 s0 ∧ ∃ j : Nat, Aside0 (s0 = 8 * (0 - (j : Int))) ∧ j ≤ 1 ∧ Aside0 (Pst base ok w w1 g (B ++ (be x 1).take j) Wt fl)) (fun s _ => (8 + intOf s).toNat)
  case atStart => exact ⟨0, rfl, 0, ⟨by omega⟩, by omega, ⟨by simpa using Pst.refl h⟩⟩
  case round =>
    obtain ⟨s0, rfl, j, hs0, hj, HP⟩ := hrel
    have hs0 := hs0.out
    obtain rfl | rfl : j = 0 ∨ j = 1 := by omega
    · obtain rfl : s0 = 0 := by omega
      obtain ⟨B1, hB1⟩ : ∃ B1, B ++ List.take 0 (be x 1) = B1 := ⟨_, rfl⟩
      rw [hB1] at HP
      have HB1 := Aside0.mk (show B1 ++ [IntKind.u8.wrap x] = B ++ (be x 1).take 1 by rw [← hB1]; simp [be, u8_wrap, List.range_succ])
      have HL1 := Aside0.mk (show B1.length = B.length + 0 by rw [← hB1]; simp [be])
      clear hB1 hs0 hj
      obtain ⟨v1, v2, hb, -⟩ := HP.out.pg
      have C0 : wr.cell? ⟨g, 0, none⟩ = some v1 := (blk_cell hb 0).trans rfl
      have CA : ∀ o, (wr.alloc o).cell? ⟨g, 0, none⟩ = some v1 := fun o => (World.cell?_alloc_lt _ _ _ (blk_lt hb)).trans C0
      clear hb
      go_wp2
      go_region_law (refine pg_step rfl (.tmp 36) (.tmp 41) rfl HP.out C0 (by simp [Act.eval, Act.put]) ⟨wr.heap.size, 0, none⟩ 1 1 [IntKind.u8.wrap x] (by simp [Act.eval, Act.put]) rfl ((Below.refl _ _).alloc (Nat.le_refl _) _).drew (World.news_of_block (cs := #[.int .u8 (IntKind.u8.wrap x)]) (t := 5) (fr := (0, 0)) (heap_alloc_new _ _)) (by omega) (by have := HL.out; have := HL1.out; omega) ?_; intro gg cap w2 cc hP2 hc2 hf2; have HP2 := Aside0.mk hP2; clear hP2 HP C0 CA)
      all_goals
        go_wp2
        go_roundw
        case rel => exact ⟨_, rfl, 1, ⟨by omega⟩, by omega, ⟨by have := HP2.out; rwa [HB1.out] at this⟩⟩
        case measure => simp [intOf]
    · obtain rfl : s0 = -8 := by omega
      clear hs0
      go_wp2
      first | go_end0 | ((try simp only [Exit.inBlock, Exit.then]); refine bodyPost_ret (results_none rfl _ _ _) rfl ?_)
      exact ⟨rfl, by have := HP.out; rwa [List.take_of_length_le (by simp [be])] at this⟩

theorem put1_calls {w : World} {base g : Nat} {ok : Nat → Prop} {B Wt : List Int} {fl : Bool} (h : Pg w base ok g B Wt fl) (x : Int) :
    Calls Try.prog 96 #[.pointer (some ⟨g, 0, none⟩), .int .i64 x, .int .i64 1] w fun e w' => e = .returned (.tuple #[]) ∧ Pst base ok w w' g (putB fl B x 1) Wt (putF fl B x 1) := by
  by_cases ho : over fl B = true
  · simp only [putB, putF, if_pos ho]
    exact put_over h x 1 ho
  · have hl : B.length ≤ 10000000000 := by simp [over] at ho; omega
    have ho' : over fl B = false := by simpa using ho
    by_cases hx : x < -(2 ^ (8 * 1 - 1)) ∨ x ≥ 2 ^ (8 * 1)
    · simp only [putB, putF, if_neg ho, if_pos hx]
      exact put1_fail h x ho' (by simpa using hx)
    · simp only [putB, putF, if_neg ho, if_neg hx]
      exact put1_ok h x ho' (by simp at hx; omega) (by simp at hx; omega) hl

set_option maxHeartbeats 400000 in
theorem put2_fail {w : World} {base g : Nat} {ok : Nat → Prop} {B Wt : List Int} {fl : Bool} (h : Pg w base ok g B Wt fl) (x : Int) (ho : over fl B = false) (hx : x < -32768 ∨ 65536 ≤ x) :
    Calls Try.prog 96 #[.pointer (some ⟨g, 0, none⟩), .int .i64 x, .int .i64 2] w fun e w' => e = .returned (.tuple #[]) ∧ Pst base ok w w' g B Wt true := by
  have HC := Aside0.mk (over_calls h)
  have HF := Aside0.mk (fail_calls h)
  clear h
  rcases hx with hx | hx
  · go_enter Try.func96, Try.ntmps96
    go_wp2_with (first | (go_at_call 112; refine HC.out.mono ?_; rintro e w' ⟨rfl, rfl⟩) | (go_at_call 113; refine HF.out.mono ?_; rintro e w' ⟨rfl, hP⟩))
    first | go_end0 | ((try simp only [Exit.inBlock, Exit.then]); refine bodyPost_ret (results_none rfl _ _ _) rfl ?_)
    exact ⟨rfl, hP⟩
  · go_enter Try.func96, Try.ntmps96
    go_wp2_with (first | (go_at_call 112; refine HC.out.mono ?_; rintro e w' ⟨rfl, rfl⟩) | (go_at_call 113; refine HF.out.mono ?_; rintro e w' ⟨rfl, hP⟩))
    first | go_end0 | ((try simp only [Exit.inBlock, Exit.then]); refine bodyPost_ret (results_none rfl _ _ _) rfl ?_)
    exact ⟨rfl, hP⟩

set_option maxHeartbeats 1000000 in
set_option maxRecDepth 100000 in
theorem put2_ok {w : World} {base g : Nat} {ok : Nat → Prop} {B Wt : List Int} {fl : Bool} (h : Pg w base ok g B Wt fl) (x : Int) (ho : over fl B = false) (hx0 : -32768 ≤ x) (hx1 : x < 65536) (hlen : B.length ≤ 10000000000) :
    Calls Try.prog 96 #[.pointer (some ⟨g, 0, none⟩), .int .i64 x, .int .i64 2] w fun e w' => e = .returned (.tuple #[]) ∧ Pst base ok w w' g (B ++ be x 2) Wt fl := by
  have HC := Aside0.mk (over_calls h)
  have HL := Aside0.mk hlen
  clear hlen
  go_enter Try.func96, Try.ntmps96
  go_wp2_with (go_at_call 112; refine HC.out.mono ?_; rintro e w' ⟨rfl, rfl⟩)
  go_loopw [6] (fun s w1 => ∃ s0 : Int, s = .int .i64 s0 ∧ ∃ j : Nat, Aside0 (s0 = 8 * (1 - (j : Int))) ∧ j ≤ 2 ∧ Aside0 (Pst base ok w w1 g (B ++ (be x 2).take j) Wt fl)) (fun s _ => (8 + intOf s).toNat)
  case atStart => exact ⟨8, rfl, 0, ⟨by omega⟩, by omega, ⟨by simpa using Pst.refl h⟩⟩
  case round =>
    obtain ⟨s0, rfl, j, hs0, hj, HP⟩ := hrel
    have hs0 := hs0.out
    obtain rfl | rfl | rfl : j = 0 ∨ j = 1 ∨ j = 2 := by omega
    · obtain rfl : s0 = 8 := by omega
      obtain ⟨B1, hB1⟩ : ∃ B1, B ++ List.take 0 (be x 2) = B1 := ⟨_, rfl⟩
      rw [hB1] at HP
      have HB1 := Aside0.mk (show B1 ++ [IntKind.u8.wrap (x / 256)] = B ++ (be x 2).take 1 by rw [← hB1]; simp [be, u8_wrap, List.range_succ])
      have HL1 := Aside0.mk (show B1.length = B.length + 0 by rw [← hB1]; simp [be])
      clear hB1 hs0 hj
      obtain ⟨v1, v2, hb, -⟩ := HP.out.pg
      have C0 : wr.cell? ⟨g, 0, none⟩ = some v1 := (blk_cell hb 0).trans rfl
      have CA : ∀ o, (wr.alloc o).cell? ⟨g, 0, none⟩ = some v1 := fun o => (World.cell?_alloc_lt _ _ _ (blk_lt hb)).trans C0
      clear hb
      go_wp2
      go_region_law (refine pg_step rfl (.tmp 36) (.tmp 41) rfl HP.out C0 (by simp [Act.eval, Act.put]) ⟨wr.heap.size, 0, none⟩ 1 1 [IntKind.u8.wrap (x / 256)] (by simp [Act.eval, Act.put]) rfl ((Below.refl _ _).alloc (Nat.le_refl _) _).drew (World.news_of_block (cs := #[.int .u8 (IntKind.u8.wrap (x / 256))]) (t := 5) (fr := (0, 0)) (heap_alloc_new _ _)) (by omega) (by have := HL.out; have := HL1.out; omega) ?_; intro gg cap w2 cc hP2 hc2 hf2; have HP2 := Aside0.mk hP2; clear hP2 HP C0 CA)
      all_goals
        go_wp2
        go_roundw
        case rel => exact ⟨_, rfl, 1, ⟨by omega⟩, by omega, ⟨by have := HP2.out; rwa [HB1.out] at this⟩⟩
        case measure => simp [intOf]
    · obtain rfl : s0 = 0 := by omega
      obtain ⟨B1, hB1⟩ : ∃ B1, B ++ List.take 1 (be x 2) = B1 := ⟨_, rfl⟩
      rw [hB1] at HP
      have HB1 := Aside0.mk (show B1 ++ [IntKind.u8.wrap x] = B ++ (be x 2).take 2 by rw [← hB1]; simp [be, u8_wrap, List.range_succ])
      have HL1 := Aside0.mk (show B1.length = B.length + 1 by rw [← hB1]; simp [be])
      clear hB1 hs0 hj
      obtain ⟨v1, v2, hb, -⟩ := HP.out.pg
      have C0 : wr.cell? ⟨g, 0, none⟩ = some v1 := (blk_cell hb 0).trans rfl
      have CA : ∀ o, (wr.alloc o).cell? ⟨g, 0, none⟩ = some v1 := fun o => (World.cell?_alloc_lt _ _ _ (blk_lt hb)).trans C0
      clear hb
      go_wp2
      go_region_law (refine pg_step rfl (.tmp 36) (.tmp 41) rfl HP.out C0 (by simp [Act.eval, Act.put]) ⟨wr.heap.size, 0, none⟩ 1 1 [IntKind.u8.wrap x] (by simp [Act.eval, Act.put]) rfl ((Below.refl _ _).alloc (Nat.le_refl _) _).drew (World.news_of_block (cs := #[.int .u8 (IntKind.u8.wrap x)]) (t := 5) (fr := (0, 0)) (heap_alloc_new _ _)) (by omega) (by have := HL.out; have := HL1.out; omega) ?_; intro gg cap w2 cc hP2 hc2 hf2; have HP2 := Aside0.mk hP2; clear hP2 HP C0 CA)
      all_goals
        go_wp2
        go_roundw
        case rel => exact ⟨_, rfl, 2, ⟨by omega⟩, by omega, ⟨by have := HP2.out; rwa [HB1.out] at this⟩⟩
        case measure => simp [intOf]
    · obtain rfl : s0 = -8 := by omega
      clear hs0
      go_wp2
      first | go_end0 | ((try simp only [Exit.inBlock, Exit.then]); refine bodyPost_ret (results_none rfl _ _ _) rfl ?_)
      exact ⟨rfl, by have := HP.out; rwa [List.take_of_length_le (by simp [be])] at this⟩

theorem put2_calls {w : World} {base g : Nat} {ok : Nat → Prop} {B Wt : List Int} {fl : Bool} (h : Pg w base ok g B Wt fl) (x : Int) :
    Calls Try.prog 96 #[.pointer (some ⟨g, 0, none⟩), .int .i64 x, .int .i64 2] w fun e w' => e = .returned (.tuple #[]) ∧ Pst base ok w w' g (putB fl B x 2) Wt (putF fl B x 2) := by
  by_cases ho : over fl B = true
  · simp only [putB, putF, if_pos ho]
    exact put_over h x 2 ho
  · have hl : B.length ≤ 10000000000 := by simp [over] at ho; omega
    have ho' : over fl B = false := by simpa using ho
    by_cases hx : x < -(2 ^ (8 * 2 - 1)) ∨ x ≥ 2 ^ (8 * 2)
    · simp only [putB, putF, if_neg ho, if_pos hx]
      exact put2_fail h x ho' (by simpa using hx)
    · simp only [putB, putF, if_neg ho, if_neg hx]
      exact put2_ok h x ho' (by simp at hx; omega) (by simp at hx; omega) hl

set_option maxHeartbeats 400000 in
theorem put4_fail {w : World} {base g : Nat} {ok : Nat → Prop} {B Wt : List Int} {fl : Bool} (h : Pg w base ok g B Wt fl) (x : Int) (ho : over fl B = false) (hx : x < -2147483648 ∨ 4294967296 ≤ x) :
    Calls Try.prog 96 #[.pointer (some ⟨g, 0, none⟩), .int .i64 x, .int .i64 4] w fun e w' => e = .returned (.tuple #[]) ∧ Pst base ok w w' g B Wt true := by
  have HC := Aside0.mk (over_calls h)
  have HF := Aside0.mk (fail_calls h)
  clear h
  rcases hx with hx | hx
  · go_enter Try.func96, Try.ntmps96
    go_wp2_with (first | (go_at_call 112; refine HC.out.mono ?_; rintro e w' ⟨rfl, rfl⟩) | (go_at_call 113; refine HF.out.mono ?_; rintro e w' ⟨rfl, hP⟩))
    first | go_end0 | ((try simp only [Exit.inBlock, Exit.then]); refine bodyPost_ret (results_none rfl _ _ _) rfl ?_)
    exact ⟨rfl, hP⟩
  · go_enter Try.func96, Try.ntmps96
    go_wp2_with (first | (go_at_call 112; refine HC.out.mono ?_; rintro e w' ⟨rfl, rfl⟩) | (go_at_call 113; refine HF.out.mono ?_; rintro e w' ⟨rfl, hP⟩))
    first | go_end0 | ((try simp only [Exit.inBlock, Exit.then]); refine bodyPost_ret (results_none rfl _ _ _) rfl ?_)
    exact ⟨rfl, hP⟩

set_option maxHeartbeats 1000000 in
set_option maxRecDepth 100000 in
theorem put4_ok {w : World} {base g : Nat} {ok : Nat → Prop} {B Wt : List Int} {fl : Bool} (h : Pg w base ok g B Wt fl) (x : Int) (ho : over fl B = false) (hx0 : -2147483648 ≤ x) (hx1 : x < 4294967296) (hlen : B.length ≤ 10000000000) :
    Calls Try.prog 96 #[.pointer (some ⟨g, 0, none⟩), .int .i64 x, .int .i64 4] w fun e w' => e = .returned (.tuple #[]) ∧ Pst base ok w w' g (B ++ be x 4) Wt fl := by
  have HC := Aside0.mk (over_calls h)
  have HL := Aside0.mk hlen
  clear hlen
  go_enter Try.func96, Try.ntmps96
  go_wp2_with (go_at_call 112; refine HC.out.mono ?_; rintro e w' ⟨rfl, rfl⟩)
  go_loopw [6] (fun s w1 => ∃ s0 : Int, s = .int .i64 s0 ∧ ∃ j : Nat, Aside0 (s0 = 8 * (3 - (j : Int))) ∧ j ≤ 4 ∧ Aside0 (Pst base ok w w1 g (B ++ (be x 4).take j) Wt fl)) (fun s _ => (8 + intOf s).toNat)
  case atStart => exact ⟨24, rfl, 0, ⟨by omega⟩, by omega, ⟨by simpa using Pst.refl h⟩⟩
  case round =>
    obtain ⟨s0, rfl, j, hs0, hj, HP⟩ := hrel
    have hs0 := hs0.out
    obtain rfl | rfl | rfl | rfl | rfl : j = 0 ∨ j = 1 ∨ j = 2 ∨ j = 3 ∨ j = 4 := by omega
    · obtain rfl : s0 = 24 := by omega
      obtain ⟨B1, hB1⟩ : ∃ B1, B ++ List.take 0 (be x 4) = B1 := ⟨_, rfl⟩
      rw [hB1] at HP
      have HB1 := Aside0.mk (show B1 ++ [IntKind.u8.wrap (x / 16777216)] = B ++ (be x 4).take 1 by rw [← hB1]; simp [be, u8_wrap, List.range_succ])
      have HL1 := Aside0.mk (show B1.length = B.length + 0 by rw [← hB1]; simp [be])
      clear hB1 hs0 hj
      obtain ⟨v1, v2, hb, -⟩ := HP.out.pg
      have C0 : wr.cell? ⟨g, 0, none⟩ = some v1 := (blk_cell hb 0).trans rfl
      have CA : ∀ o, (wr.alloc o).cell? ⟨g, 0, none⟩ = some v1 := fun o => (World.cell?_alloc_lt _ _ _ (blk_lt hb)).trans C0
      clear hb
      go_wp2
      go_region_law (refine pg_step rfl (.tmp 36) (.tmp 41) rfl HP.out C0 (by simp [Act.eval, Act.put]) ⟨wr.heap.size, 0, none⟩ 1 1 [IntKind.u8.wrap (x / 16777216)] (by simp [Act.eval, Act.put]) rfl ((Below.refl _ _).alloc (Nat.le_refl _) _).drew (World.news_of_block (cs := #[.int .u8 (IntKind.u8.wrap (x / 16777216))]) (t := 5) (fr := (0, 0)) (heap_alloc_new _ _)) (by omega) (by have := HL.out; have := HL1.out; omega) ?_; intro gg cap w2 cc hP2 hc2 hf2; have HP2 := Aside0.mk hP2; clear hP2 HP C0 CA)
      all_goals
        go_wp2
        go_roundw
        case rel => exact ⟨_, rfl, 1, ⟨by omega⟩, by omega, ⟨by have := HP2.out; rwa [HB1.out] at this⟩⟩
        case measure => simp [intOf]
    · obtain rfl : s0 = 16 := by omega
      obtain ⟨B1, hB1⟩ : ∃ B1, B ++ List.take 1 (be x 4) = B1 := ⟨_, rfl⟩
      rw [hB1] at HP
      have HB1 := Aside0.mk (show B1 ++ [IntKind.u8.wrap (x / 65536)] = B ++ (be x 4).take 2 by rw [← hB1]; simp [be, u8_wrap, List.range_succ])
      have HL1 := Aside0.mk (show B1.length = B.length + 1 by rw [← hB1]; simp [be])
      clear hB1 hs0 hj
      obtain ⟨v1, v2, hb, -⟩ := HP.out.pg
      have C0 : wr.cell? ⟨g, 0, none⟩ = some v1 := (blk_cell hb 0).trans rfl
      have CA : ∀ o, (wr.alloc o).cell? ⟨g, 0, none⟩ = some v1 := fun o => (World.cell?_alloc_lt _ _ _ (blk_lt hb)).trans C0
      clear hb
      go_wp2
      go_region_law (refine pg_step rfl (.tmp 36) (.tmp 41) rfl HP.out C0 (by simp [Act.eval, Act.put]) ⟨wr.heap.size, 0, none⟩ 1 1 [IntKind.u8.wrap (x / 65536)] (by simp [Act.eval, Act.put]) rfl ((Below.refl _ _).alloc (Nat.le_refl _) _).drew (World.news_of_block (cs := #[.int .u8 (IntKind.u8.wrap (x / 65536))]) (t := 5) (fr := (0, 0)) (heap_alloc_new _ _)) (by omega) (by have := HL.out; have := HL1.out; omega) ?_; intro gg cap w2 cc hP2 hc2 hf2; have HP2 := Aside0.mk hP2; clear hP2 HP C0 CA)
      all_goals
        go_wp2
        go_roundw
        case rel => exact ⟨_, rfl, 2, ⟨by omega⟩, by omega, ⟨by have := HP2.out; rwa [HB1.out] at this⟩⟩
        case measure => simp [intOf]
    · obtain rfl : s0 = 8 := by omega
      obtain ⟨B1, hB1⟩ : ∃ B1, B ++ List.take 2 (be x 4) = B1 := ⟨_, rfl⟩
      rw [hB1] at HP
      have HB1 := Aside0.mk (show B1 ++ [IntKind.u8.wrap (x / 256)] = B ++ (be x 4).take 3 by rw [← hB1]; simp [be, u8_wrap, List.range_succ])
      have HL1 := Aside0.mk (show B1.length = B.length + 2 by rw [← hB1]; simp [be])
      clear hB1 hs0 hj
      obtain ⟨v1, v2, hb, -⟩ := HP.out.pg
      have C0 : wr.cell? ⟨g, 0, none⟩ = some v1 := (blk_cell hb 0).trans rfl
      have CA : ∀ o, (wr.alloc o).cell? ⟨g, 0, none⟩ = some v1 := fun o => (World.cell?_alloc_lt _ _ _ (blk_lt hb)).trans C0
      clear hb
      go_wp2
      go_region_law (refine pg_step rfl (.tmp 36) (.tmp 41) rfl HP.out C0 (by simp [Act.eval, Act.put]) ⟨wr.heap.size, 0, none⟩ 1 1 [IntKind.u8.wrap (x / 256)] (by simp [Act.eval, Act.put]) rfl ((Below.refl _ _).alloc (Nat.le_refl _) _).drew (World.news_of_block (cs := #[.int .u8 (IntKind.u8.wrap (x / 256))]) (t := 5) (fr := (0, 0)) (heap_alloc_new _ _)) (by omega) (by have := HL.out; have := HL1.out; omega) ?_; intro gg cap w2 cc hP2 hc2 hf2; have HP2 := Aside0.mk hP2; clear hP2 HP C0 CA)
      all_goals
        go_wp2
        go_roundw
        case rel => exact ⟨_, rfl, 3, ⟨by omega⟩, by omega, ⟨by have := HP2.out; rwa [HB1.out] at this⟩⟩
        case measure => simp [intOf]
    · obtain rfl : s0 = 0 := by omega
      obtain ⟨B1, hB1⟩ : ∃ B1, B ++ List.take 3 (be x 4) = B1 := ⟨_, rfl⟩
      rw [hB1] at HP
      have HB1 := Aside0.mk (show B1 ++ [IntKind.u8.wrap x] = B ++ (be x 4).take 4 by rw [← hB1]; simp [be, u8_wrap, List.range_succ])
      have HL1 := Aside0.mk (show B1.length = B.length + 3 by rw [← hB1]; simp [be])
      clear hB1 hs0 hj
      obtain ⟨v1, v2, hb, -⟩ := HP.out.pg
      have C0 : wr.cell? ⟨g, 0, none⟩ = some v1 := (blk_cell hb 0).trans rfl
      have CA : ∀ o, (wr.alloc o).cell? ⟨g, 0, none⟩ = some v1 := fun o => (World.cell?_alloc_lt _ _ _ (blk_lt hb)).trans C0
      clear hb
      go_wp2
      go_region_law (refine pg_step rfl (.tmp 36) (.tmp 41) rfl HP.out C0 (by simp [Act.eval, Act.put]) ⟨wr.heap.size, 0, none⟩ 1 1 [IntKind.u8.wrap x] (by simp [Act.eval, Act.put]) rfl ((Below.refl _ _).alloc (Nat.le_refl _) _).drew (World.news_of_block (cs := #[.int .u8 (IntKind.u8.wrap x)]) (t := 5) (fr := (0, 0)) (heap_alloc_new _ _)) (by omega) (by have := HL.out; have := HL1.out; omega) ?_; intro gg cap w2 cc hP2 hc2 hf2; have HP2 := Aside0.mk hP2; clear hP2 HP C0 CA)
      all_goals
        go_wp2
        go_roundw
        case rel => exact ⟨_, rfl, 4, ⟨by omega⟩, by omega, ⟨by have := HP2.out; rwa [HB1.out] at this⟩⟩
        case measure => simp [intOf]
    · obtain rfl : s0 = -8 := by omega
      clear hs0
      go_wp2
      first | go_end0 | ((try simp only [Exit.inBlock, Exit.then]); refine bodyPost_ret (results_none rfl _ _ _) rfl ?_)
      exact ⟨rfl, by have := HP.out; rwa [List.take_of_length_le (by simp [be])] at this⟩

theorem put4_calls {w : World} {base g : Nat} {ok : Nat → Prop} {B Wt : List Int} {fl : Bool} (h : Pg w base ok g B Wt fl) (x : Int) :
    Calls Try.prog 96 #[.pointer (some ⟨g, 0, none⟩), .int .i64 x, .int .i64 4] w fun e w' => e = .returned (.tuple #[]) ∧ Pst base ok w w' g (putB fl B x 4) Wt (putF fl B x 4) := by
  by_cases ho : over fl B = true
  · simp only [putB, putF, if_pos ho]
    exact put_over h x 4 ho
  · have hl : B.length ≤ 10000000000 := by simp [over] at ho; omega
    have ho' : over fl B = false := by simpa using ho
    by_cases hx : x < -(2 ^ (8 * 4 - 1)) ∨ x ≥ 2 ^ (8 * 4)
    · simp only [putB, putF, if_neg ho, if_pos hx]
      exact put4_fail h x ho' (by simpa using hx)
    · simp only [putB, putF, if_neg ho, if_neg hx]
      exact put4_ok h x ho' (by simp at hx; omega) (by simp at hx; omega) hl

theorem Put8_calls {w : World} {base g : Nat} {ok : Nat → Prop} {B Wt : List Int} {fl : Bool} (h : Pg w base ok g B Wt fl) (x : Int) :
    Calls Try.prog 52 #[.pointer (some ⟨g, 0, none⟩), .int .i64 x] w fun e w' => e = .returned (.tuple #[]) ∧ Pst base ok w w' g (putB fl B x 1) Wt (putF fl B x 1) := by
  have HC := Aside0.mk (put1_calls h x)
  clear h
  go_enter Try.func52, Try.ntmps52
  go_wp2_with (go_at_call 96; refine HC.out.mono ?_; rintro e w' ⟨rfl, hP⟩)
  first | go_end0 | ((try simp only [Exit.inBlock, Exit.then]); refine bodyPost_ret (results_none rfl _ _ _) rfl ?_)
  exact ⟨rfl, hP⟩

theorem Put16_calls {w : World} {base g : Nat} {ok : Nat → Prop} {B Wt : List Int} {fl : Bool} (h : Pg w base ok g B Wt fl) (x : Int) :
    Calls Try.prog 47 #[.pointer (some ⟨g, 0, none⟩), .int .i64 x] w fun e w' => e = .returned (.tuple #[]) ∧ Pst base ok w w' g (putB fl B x 2) Wt (putF fl B x 2) := by
  have HC := Aside0.mk (put2_calls h x)
  clear h
  go_enter Try.func47, Try.ntmps47
  go_wp2_with (go_at_call 96; refine HC.out.mono ?_; rintro e w' ⟨rfl, hP⟩)
  first | go_end0 | ((try simp only [Exit.inBlock, Exit.then]); refine bodyPost_ret (results_none rfl _ _ _) rfl ?_)
  exact ⟨rfl, hP⟩

theorem Put32_calls {w : World} {base g : Nat} {ok : Nat → Prop} {B Wt : List Int} {fl : Bool} (h : Pg w base ok g B Wt fl) (x : Int) :
    Calls Try.prog 77 #[.pointer (some ⟨g, 0, none⟩), .int .i64 x] w fun e w' => e = .returned (.tuple #[]) ∧ Pst base ok w w' g (putB fl B x 4) Wt (putF fl B x 4) := by
  have HC := Aside0.mk (put4_calls h x)
  clear h
  go_enter Try.func77, Try.ntmps77
  go_wp2_with (go_at_call 96; refine HC.out.mono ?_; rintro e w' ⟨rfl, hP⟩)
  first | go_end0 | ((try simp only [Exit.inBlock, Exit.then]); refine bodyPost_ret (results_none rfl _ _ _) rfl ?_)
  exact ⟨rfl, hP⟩
end Go.Proofs.Ytmppdgjnibamlab.Pag
