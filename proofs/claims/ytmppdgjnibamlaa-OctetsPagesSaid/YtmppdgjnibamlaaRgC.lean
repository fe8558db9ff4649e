/- The reference's page: Put8, Put16, Put32. -/
import Derived.Test.YtmppdgjnibamlaaRgB
namespace Go.Proofs.Ytmppdgjnibamlaa.Rag
open Go.RowKit Go.Proofs.YtmppdgjnibamlaaW.PrintWords Go.Proofs.Ytmppdgjnibamlaa.PRf
open Go.Proofs.Ytmppdgjnibamlaa.Pag (over allB allE putB putF putsB tagB tagF laterB laterW padB padF padN good be C_reads)
set_option linter.unusedVariables false
set_option linter.unusedSimpArgs false

set_option maxHeartbeats 1000000 in
set_option maxRecDepth 100000 in
theorem rput_neg {w : World} {base g : Nat} {ok : Nat → Prop} {B Wt : List Int} {fl : Bool} (h : Pg w base ok g B Wt fl) (x n lo hi : Int) (ho : over fl B = false) (h0 : x < 0) (h1 : lo ≤ x) (h3 : -2147483648 ≤ x) (h4 : 0 ≤ hi) (h5 : hi ≤ 4294967295) (k : Nat) (ys : List Int) (hbig : foundryref04_Big.f k (x + (hi + 1)) n = some ys) (hpos : 0 < ys.length) (hsm : ys.length ≤ 16) :
    Calls Try.prog 107 #[.pointer (some ⟨g, 0, none⟩), .int .i64 x, .int .i64 n, .int .i64 lo, .int .i64 hi] w fun e w' => e = .returned (.tuple #[]) ∧ Pst base ok w w' g (B ++ ys) Wt fl := by
  have h2 : x ≤ hi := by omega
  have HP := Aside0.mk (Pst.refl h)
  have HC := Aside0.mk (done_calls h)
  rw [ho] at HC
  have HL : Aside0 (B.length ≤ 1048576) := Aside0.mk (by simp [over] at ho; omega)
  have HBG := Aside0.mk (fun W => foundryref04_Big.calls k (x + (hi + 1)) n ys W hbig)
  obtain ⟨v1, v2, hb, -⟩ := h
  have C0 : w.cell? ⟨g, 0, none⟩ = some v1 := (blk_cell hb 0).trans rfl
  have HLT := Aside0.mk (blk_lt hb)
  have HPS := Aside0.mk hpos
  clear hb ho hbig
  go_enter Try.func107, Try.ntmps107
  go_wp2_with (go_at_call 108; refine HC.out.mono ?_; rintro e w' ⟨rfl, rfl⟩)
  go_region_law (first
    | (go_simp; go_at_call 76; refine (HBG.out _).mono ?_; rintro e w2 ⟨vr, rfl, hR, hB⟩; obtain ⟨Ar, cr, rfl, hle, hC⟩ := Kd.R_reads hR; obtain ⟨ad, rfl, -⟩ := (C_reads hC).at_ (0 : Int) (by omega) (by have := HPS.out; omega); have HBB := Aside0.mk (below_then (B := w.heap.size) (w := w) (by repeat (first | exact Below.refl _ _ | apply below_drew1 | apply pw_below_drewN)) (by simp) hB); have HNW := Aside0.mk (news_of hC); have C0b := (hB.cell HLT.out).trans C0; clear hB hC hR)
    | (refine pg_step rfl (.tmp 33) (.tmp 36) rfl HP.out C0 rfl ad ys.length cr ys rfl rfl HBB.out HNW.out HPS.out (by have := HL.out; have := hsm; omega) ?_; intro gg cap w3 cc hP2 hc2 hf2; have HP2 := Aside0.mk hP2; clear hP2))
  all_goals
    go_wp2
    first | go_end0 | ((try simp only [Exit.inBlock, Exit.then]); refine bodyPost_ret (results_none rfl _ _ _) rfl ?_)
    exact ⟨rfl, HP2.out⟩

theorem wrapOk (x : Int) (h0 : -9223372036854775808 ≤ x) (h1 : x ≤ 9223372036854775807) : wrap64 x = x := by unfold wrap64; omega
theorem tdiv_pos {x : Int} (h : 0 ≤ x) : Int.tdiv x 256 = x / 256 := by rw [Int.tdiv_eq_ediv_of_nonneg h]
theorem tmod_pos {x : Int} (h : 0 ≤ x) : Int.tmod x 256 % 256 = x % 256 := by rw [Int.tmod_eq_emod_of_nonneg h]; omega
theorem big_step {x : Int} {l : List Int} {i : Nat} (h0 : 0 ≤ x) (h1 : x ≤ 1000000000000) (hi : i < l.length) (hl : l.length ≤ 100) {r : List Int} (h : Ev (fun k => foundryref04_Big.l0 k (x / 256) (l.set i (x % 256)) ((i : Int) - 1)) r) : Ev (fun k => foundryref04_Big.l0 k x l (i : Int)) r := by
  refine Ev.step (fun k => by rw [foundryref04_Big.l0, if_pos (by omega), if_pos (by omega), if_pos (by omega), tdiv_pos h0, tmod_pos h0, wrapOk _ (by omega) (by omega), wrapOk _ (by omega) (by omega), Int.toNat_natCast]) h
theorem big_end {x : Int} {l : List Int} : Ev (fun k => foundryref04_Big.l0 k x l (((0 : Nat) : Int) - 1)) l := Ev.step (fun k => by rw [foundryref04_Big.l0, if_neg (by omega)]) (Ev.now _)
theorem big_1 (x : Int) (h0 : 0 ≤ x) (h1 : x ≤ 1000000000000) : ∃ k, foundryref04_Big.f k x 1 = some (be x 1) := by
  refine Ev.rounds ?_
  unfold foundryref04_Big.f
  simp only [show (0 : Int) ≤ 1 by omega, if_true, show ((1 : Int).toNat ≤ 281474976710656) by decide, show wrap64 ((1 : Int) - 1) = ((0 : Nat) : Int) by unfold wrap64; omega]
  refine big_step h0 h1 (by decide) (by decide) ?_
  have e : (List.replicate (1 : Int).toNat (0 : Int)).set 0 (x % 256) = be x 1 := by simp [be, List.range_succ]
  rw [e]
  exact big_end
theorem be2 (x : Int) : be x 2 = [x / 256 % 256, x % 256] := by simp [be, List.range_succ]
theorem be4 (x : Int) : be x 4 = [x / 16777216 % 256, x / 65536 % 256, x / 256 % 256, x % 256] := by simp [be, List.range_succ]
theorem big_2 (x : Int) (h0 : 0 ≤ x) (h1 : x ≤ 1000000000000) : ∃ k, foundryref04_Big.f k x 2 = some (be x 2) := by
  refine Ev.rounds ?_
  unfold foundryref04_Big.f
  simp only [show (0 : Int) ≤ 2 by omega, if_true, show ((2 : Int).toNat ≤ 281474976710656) by decide, show wrap64 ((2 : Int) - 1) = ((1 : Nat) : Int) by unfold wrap64; omega]
  refine big_step h0 h1 (by decide) (by decide) ?_
  refine big_step (i := 0) (by omega) (by omega) (by simp) (by simp) ?_
  have e : ((List.replicate (2 : Int).toNat (0 : Int)).set 1 (x % 256)).set 0 (x / 256 % 256) = be x 2 := by rw [be2]; rfl
  rw [e]
  exact big_end
theorem big_4 (x : Int) (h0 : 0 ≤ x) (h1 : x ≤ 1000000000000) : ∃ k, foundryref04_Big.f k x 4 = some (be x 4) := by
  refine Ev.rounds ?_
  unfold foundryref04_Big.f
  simp only [show (0 : Int) ≤ 4 by omega, if_true, show ((4 : Int).toNat ≤ 281474976710656) by decide, show wrap64 ((4 : Int) - 1) = ((3 : Nat) : Int) by unfold wrap64; omega]
  refine big_step h0 h1 (by decide) (by decide) ?_
  refine big_step (i := 2) (by omega) (by omega) (by simp) (by simp) ?_
  refine big_step (i := 1) (by omega) (by omega) (by simp) (by simp) ?_
  refine big_step (i := 0) (by omega) (by omega) (by simp) (by simp) ?_
  have e : ((((List.replicate (4 : Int).toNat (0 : Int)).set 3 (x % 256)).set 2 (x / 256 % 256)).set 1 (x / 256 / 256 % 256)).set 0 (x / 256 / 256 / 256 % 256) = be x 4 := by
    rw [be4, show x / 65536 = x / 256 / 256 by omega, show x / 16777216 = x / 256 / 256 / 256 by omega]; rfl
  rw [e]
  exact big_end
theorem be_up1 (x : Int) : be (x + (255 + 1)) 1 = be x 1 := by simp [be, List.range_succ]
theorem be_up2 (x : Int) : be (x + (65535 + 1)) 2 = be x 2 := by
  rw [be2, be2, show (x + (65535 + 1)) / 256 % 256 = x / 256 % 256 by omega, show (x + (65535 + 1)) % 256 = x % 256 by omega]
theorem be_up4 (x : Int) : be (x + (4294967295 + 1)) 4 = be x 4 := by
  rw [be4, be4, show (x + (4294967295 + 1)) / 16777216 % 256 = x / 16777216 % 256 by omega, show (x + (4294967295 + 1)) / 65536 % 256 = x / 65536 % 256 by omega, show (x + (4294967295 + 1)) / 256 % 256 = x / 256 % 256 by omega, show (x + (4294967295 + 1)) % 256 = x % 256 by omega]
theorem be_len (x : Int) (n : Nat) : (be x n).length = n := by simp [be]

/-- put, whatever the number. -/
theorem rput_any {w : World} {base g : Nat} {ok : Nat → Prop} {B Wt : List Int} {fl : Bool} (h : Pg w base ok g B Wt fl) (x : Int) (n : Nat) (lo hi : Int) (hn : 0 < n) (hn16 : n ≤ 16) (hlo : lo = -(2 ^ (8 * n - 1))) (hhi : hi + 1 = 2 ^ (8 * n)) (h3 : -2147483648 ≤ lo) (h5 : hi ≤ 4294967295)
    (hb : ∀ y, 0 ≤ y → y ≤ 1000000000000 → ∃ k, foundryref04_Big.f k y (n : Int) = some (be y n)) (hu : be (x + (hi + 1)) n = be x n) :
    Calls Try.prog 107 #[.pointer (some ⟨g, 0, none⟩), .int .i64 x, .int .i64 (n : Int), .int .i64 lo, .int .i64 hi] w fun e w' => e = .returned (.tuple #[]) ∧ Pst base ok w w' g (putB fl B x n) Wt (putF fl B x n) := by
  have hhi0 : 0 ≤ hi := by
    have : (0 : Int) < 2 ^ (8 * n) := Int.pow_pos (by omega)
    omega
  cases ho : over fl B with
  | true => rw [show putB fl B x n = B by simp [putB, ho], show putF fl B x n = fl by simp [putF, ho]]; exact rput_over h x n lo hi ho
  | false =>
    by_cases hx : x < lo ∨ hi < x
    · have hx' : x < -(2 ^ (8 * n - 1)) ∨ x ≥ 2 ^ (8 * n) := by
        rw [← hlo, ← hhi]; omega
      rw [show putB fl B x n = B by simp only [putB, ho, Bool.false_eq_true, if_false]; rw [if_pos hx'], show putF fl B x n = true by simp only [putF, ho, Bool.false_eq_true, if_false]; rw [if_pos hx']]
      exact rput_bad h x n lo hi ho hx
    · have hx' : ¬ (x < -(2 ^ (8 * n - 1)) ∨ x ≥ 2 ^ (8 * n)) := by
        rw [← hlo, ← hhi]; omega
      rw [show putB fl B x n = B ++ be x n by simp only [putB, ho, Bool.false_eq_true, if_false]; rw [if_neg hx'], show putF fl B x n = fl by simp only [putF, ho, Bool.false_eq_true, if_false]; rw [if_neg hx']]
      by_cases h0 : 0 ≤ x
      · obtain ⟨k, hk⟩ := hb x h0 (by omega)
        exact rput_ok h x n lo hi ho h0 (by omega) (by omega) k _ hk (by rw [be_len]; omega) (by rw [be_len]; omega)
      · obtain ⟨k, hk⟩ := hb (x + (hi + 1)) (by
          have e1 : (2 : Int) ^ (8 * n) = 2 * 2 ^ (8 * n - 1) := by
            rw [← Int.pow_succ']; congr 1; omega
          have : (0 : Int) < 2 ^ (8 * n - 1) := Int.pow_pos (by omega)
          omega) (by omega)
        rw [hu] at hk
        exact rput_neg h x n lo hi ho (by omega) (by omega) (by omega) hhi0 h5 k _ hk (by rw [be_len]; omega) (by rw [be_len]; omega)

theorem Put8_calls {w : World} {base g : Nat} {ok : Nat → Prop} {B Wt : List Int} {fl : Bool} (h : Pg w base ok g B Wt fl) (x : Int) :
    Calls Try.prog 86 #[.pointer (some ⟨g, 0, none⟩), .int .i64 x] w fun e w' => e = .returned (.tuple #[]) ∧ Pst base ok w w' g (putB fl B x 1) Wt (putF fl B x 1) := by
  have HC := Aside0.mk (rput_any h x 1 (-128) 255 (by decide) (by decide) (by decide) (by decide) (by decide) (by decide) big_1 (be_up1 x))
  clear h
  go_enter Try.func86, Try.ntmps86
  go_wp2_with (go_at_call 107; refine HC.out.mono ?_; rintro e w' ⟨rfl, hP⟩)
  first | go_end0 | ((try simp only [Exit.inBlock, Exit.then]); refine bodyPost_ret (results_none rfl _ _ _) rfl ?_)
  exact ⟨rfl, hP⟩
theorem Put16_calls {w : World} {base g : Nat} {ok : Nat → Prop} {B Wt : List Int} {fl : Bool} (h : Pg w base ok g B Wt fl) (x : Int) :
    Calls Try.prog 87 #[.pointer (some ⟨g, 0, none⟩), .int .i64 x] w fun e w' => e = .returned (.tuple #[]) ∧ Pst base ok w w' g (putB fl B x 2) Wt (putF fl B x 2) := by
  have HC := Aside0.mk (rput_any h x 2 (-32768) 65535 (by decide) (by decide) (by decide) (by decide) (by decide) (by decide) big_2 (be_up2 x))
  clear h
  go_enter Try.func87, Try.ntmps87
  go_wp2_with (go_at_call 107; refine HC.out.mono ?_; rintro e w' ⟨rfl, hP⟩)
  first | go_end0 | ((try simp only [Exit.inBlock, Exit.then]); refine bodyPost_ret (results_none rfl _ _ _) rfl ?_)
  exact ⟨rfl, hP⟩
theorem Put32_calls {w : World} {base g : Nat} {ok : Nat → Prop} {B Wt : List Int} {fl : Bool} (h : Pg w base ok g B Wt fl) (x : Int) :
    Calls Try.prog 88 #[.pointer (some ⟨g, 0, none⟩), .int .i64 x] w fun e w' => e = .returned (.tuple #[]) ∧ Pst base ok w w' g (putB fl B x 4) Wt (putF fl B x 4) := by
  have HC := Aside0.mk (rput_any h x 4 (-2147483648) 4294967295 (by decide) (by decide) (by decide) (by decide) (by decide) (by decide) big_4 (be_up4 x))
  clear h
  go_enter Try.func88, Try.ntmps88
  go_wp2_with (go_at_call 107; refine HC.out.mono ?_; rintro e w' ⟨rfl, hP⟩)
  first | go_end0 | ((try simp only [Exit.inBlock, Exit.then]); refine bodyPost_ret (results_none rfl _ _ _) rfl ?_)
  exact ⟨rfl, hP⟩
end Go.Proofs.Ytmppdgjnibamlaa.Rag
