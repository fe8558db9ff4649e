/- foundrylaw04.act: both pages are turned alike. -/
import Derived.Test.YtmppdgjnibamlaaRgF
namespace Go.Proofs.Ytmppdgjnibamlaa.Duo
open Go.RowKit Go.Proofs.YtmppdgjnibamlaaW.PrintWords
open Go.Proofs.Ytmppdgjnibamlaa.Pag (over allB allE putB putF putsB tagB tagF laterB laterW padB padF padN good be nowB nowW nowF reads_C)
set_option linter.unusedVariables false
set_option linter.unusedSimpArgs false

/-- Both pages are alike. -/
def Like (w : World) (base g1 g2 : Nat) (q : Nat) : Prop := ∃ (B Wt : List Int) (fl : Bool), Duo (fun _ => False) w base g1 B Wt fl g2 B Wt fl ∧ InvW B Wt ∧ Wt.length ≤ q

section
variable {w : World} {base g1 g2 : Nat} {B Wt : List Int} {fl : Bool}

set_option maxHeartbeats 1000000 in
set_option maxRecDepth 100000 in
theorem act_Put8 (h : Duo (fun _ => False) w base g1 B Wt fl g2 B Wt fl) (hI : InvW B Wt) (q : Nat) (hW : Wt.length ≤ q) (hq : q ≤ 1000000) (n m : Int) (s : ByteArray) (hs : s.size ≤ 1000000) :
    Calls Try.prog 45 #[.pointer (some ⟨g1, 0, none⟩), .pointer (some ⟨g2, 0, none⟩), .agg #[.int .i64 1, .int .i64 n, .int .i64 m, .string s]] w fun e w' => e = .returned (.bool true) ∧ Like w' base g1 g2 (q + 1) ∧ Below base w w' := by
  have HX := Aside0.mk (h.boxed (.cells #[.int .i64 1, .int .i64 n, .int .i64 m, .string s] 68))
  have HB := Aside0.mk ((Below.refl base w).alloc h.base_le (.cells #[.int .i64 1, .int .i64 n, .int .i64 m, .string s] 68))
  have HK := Aside0.mk (heap_alloc_new w (.cells #[.int .i64 1, .int .i64 n, .int .i64 m, .string s] 68))
  have HI := Aside0.mk hI
  have HW := Aside0.mk hW
  have HQ := Aside0.mk hq
  have HS := Aside0.mk hs
  clear h hI hW hq hs
  go_enter Try.func45, Try.ntmps45
  go_wp2_with (first
    | (go_at_call 19; refine (HX.out.one (fun ok1 hp => Pag.Put8_calls hp n)).mono ?_; rintro e w1 ⟨rfl, hd, hb, hk⟩; have HX1 := Aside0.mk hd; have HB1 := Aside0.mk (HB.out.trans hb); have HK1 := Aside0.mk ((hk _ rfl).trans HK.out); clear hd hb hk; have D0 := (blk_cell HK1.out 0); have D1 := (blk_cell HK1.out 1); have D2 := (blk_cell HK1.out 2); have D3 := (blk_cell HK1.out 3); simp at D0 D1 D2 D3)
    | (go_at_call 86; refine (HX1.out.two (fun ok2 hp => Rag.Put8_calls hp n)).mono ?_; rintro e w2 ⟨rfl, hd, hb, hk⟩; have HX2 := Aside0.mk hd; have HB2 := Aside0.mk (HB1.out.trans hb); clear hd hb hk))
  go_ret
  exact ⟨by first | rfl | simp, ⟨_, _, _, HX2.out.weaken, HI.out.grow (len_put _ _ _ _), by have := HW.out; omega⟩, HB2.out⟩

set_option maxHeartbeats 1000000 in
set_option maxRecDepth 100000 in
theorem act_Put16 (h : Duo (fun _ => False) w base g1 B Wt fl g2 B Wt fl) (hI : InvW B Wt) (q : Nat) (hW : Wt.length ≤ q) (hq : q ≤ 1000000) (n m : Int) (s : ByteArray) (hs : s.size ≤ 1000000) :
    Calls Try.prog 45 #[.pointer (some ⟨g1, 0, none⟩), .pointer (some ⟨g2, 0, none⟩), .agg #[.int .i64 2, .int .i64 n, .int .i64 m, .string s]] w fun e w' => e = .returned (.bool true) ∧ Like w' base g1 g2 (q + 1) ∧ Below base w w' := by
  have HX := Aside0.mk (h.boxed (.cells #[.int .i64 2, .int .i64 n, .int .i64 m, .string s] 68))
  have HB := Aside0.mk ((Below.refl base w).alloc h.base_le (.cells #[.int .i64 2, .int .i64 n, .int .i64 m, .string s] 68))
  have HK := Aside0.mk (heap_alloc_new w (.cells #[.int .i64 2, .int .i64 n, .int .i64 m, .string s] 68))
  have HI := Aside0.mk hI
  have HW := Aside0.mk hW
  have HQ := Aside0.mk hq
  have HS := Aside0.mk hs
  clear h hI hW hq hs
  go_enter Try.func45, Try.ntmps45
  go_wp2_with (first
    | (go_at_call 18; refine (HX.out.one (fun ok1 hp => Pag.Put16_calls hp n)).mono ?_; rintro e w1 ⟨rfl, hd, hb, hk⟩; have HX1 := Aside0.mk hd; have HB1 := Aside0.mk (HB.out.trans hb); have HK1 := Aside0.mk ((hk _ rfl).trans HK.out); clear hd hb hk; have D0 := (blk_cell HK1.out 0); have D1 := (blk_cell HK1.out 1); have D2 := (blk_cell HK1.out 2); have D3 := (blk_cell HK1.out 3); simp at D0 D1 D2 D3)
    | (go_at_call 87; refine (HX1.out.two (fun ok2 hp => Rag.Put16_calls hp n)).mono ?_; rintro e w2 ⟨rfl, hd, hb, hk⟩; have HX2 := Aside0.mk hd; have HB2 := Aside0.mk (HB1.out.trans hb); clear hd hb hk))
  go_ret
  exact ⟨by first | rfl | simp, ⟨_, _, _, HX2.out.weaken, HI.out.grow (len_put _ _ _ _), by have := HW.out; omega⟩, HB2.out⟩

set_option maxHeartbeats 1000000 in
set_option maxRecDepth 100000 in
theorem act_Put32 (h : Duo (fun _ => False) w base g1 B Wt fl g2 B Wt fl) (hI : InvW B Wt) (q : Nat) (hW : Wt.length ≤ q) (hq : q ≤ 1000000) (n m : Int) (s : ByteArray) (hs : s.size ≤ 1000000) :
    Calls Try.prog 45 #[.pointer (some ⟨g1, 0, none⟩), .pointer (some ⟨g2, 0, none⟩), .agg #[.int .i64 3, .int .i64 n, .int .i64 m, .string s]] w fun e w' => e = .returned (.bool true) ∧ Like w' base g1 g2 (q + 1) ∧ Below base w w' := by
  have HX := Aside0.mk (h.boxed (.cells #[.int .i64 3, .int .i64 n, .int .i64 m, .string s] 68))
  have HB := Aside0.mk ((Below.refl base w).alloc h.base_le (.cells #[.int .i64 3, .int .i64 n, .int .i64 m, .string s] 68))
  have HK := Aside0.mk (heap_alloc_new w (.cells #[.int .i64 3, .int .i64 n, .int .i64 m, .string s] 68))
  have HI := Aside0.mk hI
  have HW := Aside0.mk hW
  have HQ := Aside0.mk hq
  have HS := Aside0.mk hs
  clear h hI hW hq hs
  go_enter Try.func45, Try.ntmps45
  go_wp2_with (first
    | (go_at_call 17; refine (HX.out.one (fun ok1 hp => Pag.Put32_calls hp n)).mono ?_; rintro e w1 ⟨rfl, hd, hb, hk⟩; have HX1 := Aside0.mk hd; have HB1 := Aside0.mk (HB.out.trans hb); have HK1 := Aside0.mk ((hk _ rfl).trans HK.out); clear hd hb hk; have D0 := (blk_cell HK1.out 0); have D1 := (blk_cell HK1.out 1); have D2 := (blk_cell HK1.out 2); have D3 := (blk_cell HK1.out 3); simp at D0 D1 D2 D3)
    | (go_at_call 88; refine (HX1.out.two (fun ok2 hp => Rag.Put32_calls hp n)).mono ?_; rintro e w2 ⟨rfl, hd, hb, hk⟩; have HX2 := Aside0.mk hd; have HB2 := Aside0.mk (HB1.out.trans hb); clear hd hb hk))
  go_ret
  exact ⟨by first | rfl | simp, ⟨_, _, _, HX2.out.weaken, HI.out.grow (len_put _ _ _ _), by have := HW.out; omega⟩, HB2.out⟩

set_option maxHeartbeats 1000000 in
set_option maxRecDepth 100000 in
theorem act_PutTag (h : Duo (fun _ => False) w base g1 B Wt fl g2 B Wt fl) (hI : InvW B Wt) (q : Nat) (hW : Wt.length ≤ q) (hq : q ≤ 1000000) (n m : Int) (s : ByteArray) (hs : s.size ≤ 1000000) :
    Calls Try.prog 45 #[.pointer (some ⟨g1, 0, none⟩), .pointer (some ⟨g2, 0, none⟩), .agg #[.int .i64 4, .int .i64 n, .int .i64 m, .string s]] w fun e w' => e = .returned (.bool true) ∧ Like w' base g1 g2 (q + 1) ∧ Below base w w' := by
  have HX := Aside0.mk (h.boxed (.cells #[.int .i64 4, .int .i64 n, .int .i64 m, .string s] 68))
  have HB := Aside0.mk ((Below.refl base w).alloc h.base_le (.cells #[.int .i64 4, .int .i64 n, .int .i64 m, .string s] 68))
  have HK := Aside0.mk (heap_alloc_new w (.cells #[.int .i64 4, .int .i64 n, .int .i64 m, .string s] 68))
  have HI := Aside0.mk hI
  have HW := Aside0.mk hW
  have HQ := Aside0.mk hq
  have HS := Aside0.mk hs
  obtain ⟨kg, hkg⟩ := Rag.good_ev s (by omega)
  have HG := Aside0.mk hkg
  clear hkg
  clear h hI hW hq hs
  go_enter Try.func45, Try.ntmps45
  go_wp2_with (first
    | (go_at_call 21; refine (HX.out.one (fun ok1 hp => Pag.PutTag_calls hp s (by have := HS.out; omega))).mono ?_; rintro e w1 ⟨rfl, hd, hb, hk⟩; have HX1 := Aside0.mk hd; have HB1 := Aside0.mk (HB.out.trans hb); have HK1 := Aside0.mk ((hk _ rfl).trans HK.out); clear hd hb hk; have D0 := (blk_cell HK1.out 0); have D1 := (blk_cell HK1.out 1); have D2 := (blk_cell HK1.out 2); have D3 := (blk_cell HK1.out 3); simp at D0 D1 D2 D3)
    | (go_at_call 89; refine (HX1.out.two (fun ok2 hp => Rag.PutTag_calls hp s (by have := HS.out; omega) kg HG.out)).mono ?_; rintro e w2 ⟨rfl, hd, hb, hk⟩; have HX2 := Aside0.mk hd; have HB2 := Aside0.mk (HB1.out.trans hb); clear hd hb hk))
  go_ret
  exact ⟨by first | rfl | simp, ⟨_, _, _, HX2.out.weaken, HI.out.grow (len_tag _ _ _), by have := HW.out; omega⟩, HB2.out⟩

set_option maxHeartbeats 1000000 in
set_option maxRecDepth 100000 in
theorem act_Later (h : Duo (fun _ => False) w base g1 B Wt fl g2 B Wt fl) (hI : InvW B Wt) (q : Nat) (hW : Wt.length ≤ q) (hq : q ≤ 1000000) (n m : Int) (s : ByteArray) (hs : s.size ≤ 1000000) :
    Calls Try.prog 45 #[.pointer (some ⟨g1, 0, none⟩), .pointer (some ⟨g2, 0, none⟩), .agg #[.int .i64 6, .int .i64 n, .int .i64 m, .string s]] w fun e w' => e = .returned (.bool true) ∧ Like w' base g1 g2 (q + 1) ∧ Below base w w' := by
  have HX := Aside0.mk (h.boxed (.cells #[.int .i64 6, .int .i64 n, .int .i64 m, .string s] 68))
  have HB := Aside0.mk ((Below.refl base w).alloc h.base_le (.cells #[.int .i64 6, .int .i64 n, .int .i64 m, .string s] 68))
  have HK := Aside0.mk (heap_alloc_new w (.cells #[.int .i64 6, .int .i64 n, .int .i64 m, .string s] 68))
  have HI := Aside0.mk hI
  have HW := Aside0.mk hW
  have HQ := Aside0.mk hq
  have HS := Aside0.mk hs
  clear h hI hW hq hs
  go_enter Try.func45, Try.ntmps45
  go_wp2_with (first
    | (go_at_call 27; refine (HX.out.one (fun ok1 hp => Pag.Later_calls hp (by have := HW.out; have := HQ.out; omega))).mono ?_; rintro e w1 ⟨rfl, hd, hb, hk⟩; have HX1 := Aside0.mk hd; have HB1 := Aside0.mk (HB.out.trans hb); have HK1 := Aside0.mk ((hk _ rfl).trans HK.out); clear hd hb hk; have D0 := (blk_cell HK1.out 0); have D1 := (blk_cell HK1.out 1); have D2 := (blk_cell HK1.out 2); have D3 := (blk_cell HK1.out 3); simp at D0 D1 D2 D3)
    | (go_at_call 91; refine (HX1.out.two (fun ok2 hp => Rag.Later_calls hp (by have := HW.out; have := HQ.out; omega))).mono ?_; rintro e w2 ⟨rfl, hd, hb, hk⟩; have HX2 := Aside0.mk hd; have HB2 := Aside0.mk (HB1.out.trans hb); clear hd hb hk))
  go_ret
  exact ⟨by first | rfl | simp, ⟨_, _, _, HX2.out.weaken, HI.out.later, by have := len_laterW fl B Wt; have := HW.out; omega⟩, HB2.out⟩

set_option maxHeartbeats 1000000 in
set_option maxRecDepth 100000 in
theorem act_Now (h : Duo (fun _ => False) w base g1 B Wt fl g2 B Wt fl) (hI : InvW B Wt) (q : Nat) (hW : Wt.length ≤ q) (hq : q ≤ 1000000) (n m : Int) (s : ByteArray) (hs : s.size ≤ 1000000) :
    Calls Try.prog 45 #[.pointer (some ⟨g1, 0, none⟩), .pointer (some ⟨g2, 0, none⟩), .agg #[.int .i64 7, .int .i64 n, .int .i64 m, .string s]] w fun e w' => e = .returned (.bool true) ∧ Like w' base g1 g2 (q + 1) ∧ Below base w w' := by
  have HX := Aside0.mk (h.boxed (.cells #[.int .i64 7, .int .i64 n, .int .i64 m, .string s] 68))
  have HB := Aside0.mk ((Below.refl base w).alloc h.base_le (.cells #[.int .i64 7, .int .i64 n, .int .i64 m, .string s] 68))
  have HK := Aside0.mk (heap_alloc_new w (.cells #[.int .i64 7, .int .i64 n, .int .i64 m, .string s] 68))
  have HI := Aside0.mk hI
  have HW := Aside0.mk hW
  have HQ := Aside0.mk hq
  have HS := Aside0.mk hs
  clear h hI hW hq hs
  go_enter Try.func45, Try.ntmps45
  go_wp2_with (first
    | (go_at_call 28; refine (HX.out.one (fun ok1 hp => Pag.Now_calls hp n m HI.out.2)).mono ?_; rintro e w1 ⟨rfl, hd, hb, hk⟩; have HX1 := Aside0.mk hd; have HB1 := Aside0.mk (HB.out.trans hb); have HK1 := Aside0.mk ((hk _ rfl).trans HK.out); clear hd hb hk; have D0 := (blk_cell HK1.out 0); have D1 := (blk_cell HK1.out 1); have D2 := (blk_cell HK1.out 2); have D3 := (blk_cell HK1.out 3); simp at D0 D1 D2 D3)
    | (go_at_call 92; refine (HX1.out.two (fun ok2 hp => RNow_calls hp n m HI.out (by have := HW.out; have := HQ.out; omega))).mono ?_; rintro e w2 ⟨rfl, hd, hb, hk⟩; have HX2 := Aside0.mk hd; have HB2 := Aside0.mk (HB1.out.trans hb); clear hd hb hk))
  go_ret
  exact ⟨by first | rfl | simp, ⟨_, _, _, HX2.out.weaken, HI.out.now, by have := len_nowW fl B Wt n m; have := HW.out; omega⟩, HB2.out⟩

set_option maxHeartbeats 1000000 in
set_option maxRecDepth 100000 in
theorem act_Pad (h : Duo (fun _ => False) w base g1 B Wt fl g2 B Wt fl) (hI : InvW B Wt) (q : Nat) (hW : Wt.length ≤ q) (hq : q ≤ 1000000) (n m : Int) (s : ByteArray) (hs : s.size ≤ 1000000) :
    Calls Try.prog 45 #[.pointer (some ⟨g1, 0, none⟩), .pointer (some ⟨g2, 0, none⟩), .agg #[.int .i64 8, .int .i64 n, .int .i64 m, .string s]] w fun e w' => e = .returned (.bool true) ∧ Like w' base g1 g2 (q + 1) ∧ Below base w w' := by
  have HX := Aside0.mk (h.boxed (.cells #[.int .i64 8, .int .i64 n, .int .i64 m, .string s] 68))
  have HB := Aside0.mk ((Below.refl base w).alloc h.base_le (.cells #[.int .i64 8, .int .i64 n, .int .i64 m, .string s] 68))
  have HK := Aside0.mk (heap_alloc_new w (.cells #[.int .i64 8, .int .i64 n, .int .i64 m, .string s] 68))
  have HI := Aside0.mk hI
  have HW := Aside0.mk hW
  have HQ := Aside0.mk hq
  have HS := Aside0.mk hs
  clear h hI hW hq hs
  go_enter Try.func45, Try.ntmps45
  go_wp2_with (first
    | (go_at_call 33; refine (HX.out.one (fun ok1 hp => Pag.Pad_calls hp n)).mono ?_; rintro e w1 ⟨rfl, hd, hb, hk⟩; have HX1 := Aside0.mk hd; have HB1 := Aside0.mk (HB.out.trans hb); have HK1 := Aside0.mk ((hk _ rfl).trans HK.out); clear hd hb hk; have D0 := (blk_cell HK1.out 0); have D1 := (blk_cell HK1.out 1); have D2 := (blk_cell HK1.out 2); have D3 := (blk_cell HK1.out 3); simp at D0 D1 D2 D3)
    | (go_at_call 93; refine (HX1.out.two (fun ok2 hp => Rag.Pad_calls hp n)).mono ?_; rintro e w2 ⟨rfl, hd, hb, hk⟩; have HX2 := Aside0.mk hd; have HB2 := Aside0.mk (HB1.out.trans hb); clear hd hb hk))
  go_ret
  exact ⟨by first | rfl | simp, ⟨_, _, _, HX2.out.weaken, HI.out.grow (len_pad _ _ _), by have := HW.out; omega⟩, HB2.out⟩
end
end Go.Proofs.Ytmppdgjnibamlaa.Duo
