/- Contracts of Later and Pad of octets.Page. -/
import Derived.Test.YtmppdgjnibamlabPgG
namespace Go.Proofs.Ytmppdgjnibamlab.Pag
open Go.RowKit Go.Proofs.YtmppdgjnibamlabW.PrintWords
set_option linter.unusedVariables false
set_option linter.unusedSimpArgs false

theorem cell_one {w w2 : World} {base g : Nat} {ok : Nat → Prop} {B Wt : List Int} {fl : Bool} {v : Value} (h : Pst base ok w (w2.setCell ⟨g, 0, none⟩ v) g B Wt fl) :
    ∃ x, Aside0 ((w2.setCell ⟨g, 0, none⟩ v).cell? ⟨g, 1, none⟩ = some x) ∧ w2.cell? ⟨g, 1, none⟩ = some x := by
  obtain ⟨x1, x2, hb, -⟩ := h.pg
  have c : (w2.setCell ⟨g, 0, none⟩ v).cell? ⟨g, 1, none⟩ = some x2 := (blk_cell hb 1).trans rfl
  exact ⟨x2, ⟨c⟩, (World.cell?_setCell_other _ ⟨g, 0, none⟩ ⟨g, 1, none⟩ v (by simp)).symm.trans c⟩

def laterB (fl : Bool) (B : List Int) : List Int := if over fl B = true then B else B ++ [0, 0, 0, 0]
def laterW (fl : Bool) (B Wt : List Int) : List Int := if over fl B = true then Wt else Wt ++ [(B.length : Int)]



/-- What Pad makes of a page: n from 1 to 16. -/
def padN (m n : Nat) : Nat := (n - m % n) % n
def padB (fl : Bool) (B : List Int) (n : Int) : List Int := if over fl B = true then B else if n < 1 ∨ n > 16 then B else B ++ List.replicate (padN B.length n.toNat) 0
def padF (fl : Bool) (B : List Int) (n : Int) : Bool := if over fl B = true then fl else if n < 1 ∨ n > 16 then true else fl

theorem padN_step {m n : Nat} (hn : 0 < n) (h : m % n ≠ 0) : padN m n = padN (m + 1) n + 1 := by
  unfold padN
  have h1 := Nat.mod_lt m hn
  rcases Nat.lt_or_ge (m % n + 1) n with h2 | h2
  · have e : (m + 1) % n = m % n + 1 := by
      rw [Nat.add_mod]
      rcases Nat.lt_or_ge 1 n with h3 | h3
      · rw [Nat.mod_eq_of_lt h3, Nat.mod_eq_of_lt h2]
      · omega
    have hp : 0 < m % n := Nat.pos_of_ne_zero h
    have a1 : (n - m % n) % n = n - m % n := Nat.mod_eq_of_lt (by omega)
    have a2 : (n - (m % n + 1)) % n = n - (m % n + 1) := Nat.mod_eq_of_lt (by omega)
    rw [e, a1, a2]
    omega
  · have e : (m + 1) % n = 0 := by
      have : m % n = n - 1 := by omega
      have hd := Nat.div_add_mod m n
      have : m + 1 = n * (m / n) + n := by omega
      rw [this, ← Nat.mul_succ, Nat.mul_mod_right]
    rw [e]
    have : n - m % n = 1 := by omega
    rw [this]
    rcases Nat.lt_or_ge 1 n with h3 | h3
    · rw [Nat.mod_eq_of_lt h3]; simp
    · have : n = 1 := by omega
      subst this
      omega
theorem padN_zero {m n : Nat} (hn : 0 < n) (h : m % n = 0) : padN m n = 0 := by
  unfold padN
  rw [h]
  simp
theorem padN_lt {m n : Nat} (hn : 0 < n) : padN m n < n := Nat.mod_lt _ hn

set_option maxHeartbeats 1000000 in
set_option maxRecDepth 100000 in
theorem Pad_ok {w : World} {base g : Nat} {ok : Nat → Prop} {B Wt : List Int} {fl : Bool} (h : Pg w base ok g B Wt fl) (n : Nat) (ho : over fl B = false) (hn1 : 1 ≤ n) (hn2 : n ≤ 16) :
    Calls Try.prog 80 #[.pointer (some ⟨g, 0, none⟩), .int .i64 (n : Int)] w fun e w' => e = .returned (.tuple #[]) ∧ Pst base ok w w' g (B ++ List.replicate (padN B.length n) 0) Wt fl := by
  have HC := Aside0.mk (over_calls h)
  have HP := Aside0.mk (Pst.refl h)
  have HL2 : Aside0 (B.length ≤ 1048576) := Aside0.mk (by simp [over] at ho; omega)
  have hz : ((n : Int) == 0) = false := by simp; omega
  clear h
  go_enter Try.func80, Try.ntmps80
  go_wp2_with (go_at_call 112; refine HC.out.mono ?_; rintro e w' ⟨rfl, rfl⟩)
  go_loopg [] 17 (fun k w1 => ∃ j : Nat, Aside0 (j + padN (B.length + j) n = padN B.length n ∧ padN (B.length + j) n < k ∧ j ≤ 16) ∧ Aside0 (Pst base ok w w1 g (B ++ List.replicate j 0) Wt fl))
  case atStart => exact ⟨0, ⟨by simp, by have := padN_lt (m := B.length) (n := n) (by omega); simp; omega, by omega⟩, ⟨by simpa using HP.out⟩⟩
  case round =>
    obtain ⟨j, HJ, HQ⟩ := hrel
    obtain ⟨B1, hB1⟩ : ∃ B1, B ++ List.replicate j 0 = B1 := ⟨_, rfl⟩
    rw [hB1] at HQ
    have HB1 := Aside0.mk (show B1 ++ [0] = B ++ List.replicate (j + 1) 0 by rw [← hB1, List.append_assoc, ← List.replicate_succ'])
    have HL1 := Aside0.mk (show B1.length = B.length + j by rw [← hB1]; simp)
    have HE := Aside0.mk hB1
    clear hB1
    obtain ⟨v1, v2, hb, h1, h2, h3, -⟩ := HQ.out.pg
    obtain ⟨A1, c1, rfl⟩ := own_slice h3
    have C0 : wr.cell? ⟨g, 0, none⟩ = some (.slice A1 B1.length c1) := (blk_cell hb 0).trans rfl
    clear hb h1 h2 h3
    by_cases hm : B1.length % n = 0
    · have hd : (((B1.length : Int) % (n : Int)) == 0) = true := by simp; omega
      have HF := Aside0.mk (show B1 = B ++ List.replicate (padN B.length n) 0 by
        have := HJ.out.1
        rw [← HL1.out, padN_zero (by omega) hm] at this
        rw [← HE.out, ← this]; simp)
      clear hm
      go_wp2
      first | go_end0 | ((try simp only [Exit.inBlock, Exit.then]); refine bodyPost_ret (results_none rfl _ _ _) rfl ?_)
      exact ⟨rfl, by rw [← HF.out]; exact HQ.out⟩
    · have hd : (((B1.length : Int) % (n : Int)) != 0) = true := by simp; omega
      have HS := Aside0.mk (show padN (B.length + j) n = padN (B.length + (j + 1)) n + 1 by
        rw [← HL1.out]
        have := padN_step (m := B1.length) (n := n) (by omega) hm
        rw [this, HL1.out, Nat.add_assoc])
      clear hm
      go_wp2_with (at_builtin; refine pg_row rfl (.tmp 26) (.tmp 27) rfl HQ.out C0 rfl (some ⟨wr.heap.size, 0, none⟩) 1 1 [0] rfl ((Below.refl _ _).alloc (Nat.le_refl _) _) (reads_block (w := wr.alloc (.cells #[.int .u8 0] 5)) (k := .u8) (ys := [0]) (t := 5) (heap_alloc_new wr _) (by simp)) (by have := HL1.out; have := HL2.out; have := HJ.out; omega) ?_; intro A' c' w2 cc hP2 hc2 hf2; have HP2 := Aside0.mk hP2; clear hP2 C0 HQ)
      go_roundg (gk - 1)
      case measure => have := HJ.out; omega
      case rel => exact ⟨j + 1, ⟨by have := HJ.out; have := HS.out; have := padN_lt (m := B.length) (n := n) (by omega); omega⟩, ⟨by rw [← HB1.out]; exact HP2.out⟩⟩

theorem Pad_calls {w : World} {base g : Nat} {ok : Nat → Prop} {B Wt : List Int} {fl : Bool} (h : Pg w base ok g B Wt fl) (n : Int) :
    Calls Try.prog 80 #[.pointer (some ⟨g, 0, none⟩), .int .i64 n] w fun e w' => e = .returned (.tuple #[]) ∧ Pst base ok w w' g (padB fl B n) Wt (padF fl B n) := by
  have HC := Aside0.mk (over_calls h)
  have HF := Aside0.mk (fail_calls h)
  have HP := Aside0.mk (Pst.refl h)
  by_cases ho : over fl B = true
  · simp only [padB, padF, if_pos ho]
    clear h
    go_enter Try.func80, Try.ntmps80
    go_wp2_with (go_at_call 112; refine HC.out.mono ?_; rintro e w' ⟨rfl, rfl⟩)
    first | go_end0 | ((try simp only [Exit.inBlock, Exit.then]); refine bodyPost_ret (results_none rfl _ _ _) rfl ?_)
    exact ⟨rfl, HP.out⟩
  · have ho' : over fl B = false := by simpa using ho
    by_cases hn : n < 1 ∨ n > 16
    · simp only [padB, padF, if_neg ho, if_pos hn]
      clear ho h
      rcases hn with hn | hn
      · go_enter Try.func80, Try.ntmps80
        go_wp2_with (first | (go_at_call 112; refine HC.out.mono ?_; rintro e w' ⟨rfl, rfl⟩) | (go_at_call 113; refine HF.out.mono ?_; rintro e w' ⟨rfl, hP2⟩))
        first | go_end0 | ((try simp only [Exit.inBlock, Exit.then]); refine bodyPost_ret (results_none rfl _ _ _) rfl ?_)
        exact ⟨rfl, hP2⟩
      · go_enter Try.func80, Try.ntmps80
        go_wp2_with (first | (go_at_call 112; refine HC.out.mono ?_; rintro e w' ⟨rfl, rfl⟩) | (go_at_call 113; refine HF.out.mono ?_; rintro e w' ⟨rfl, hP2⟩))
        first | go_end0 | ((try simp only [Exit.inBlock, Exit.then]); refine bodyPost_ret (results_none rfl _ _ _) rfl ?_)
        exact ⟨rfl, hP2⟩
    · simp only [padB, padF, if_neg ho, if_neg hn]
      obtain ⟨m, rfl⟩ := Int.eq_ofNat_of_zero_le (a := n) (by omega)
      exact Pad_ok h m ho' (by omega) (by omega)
end Go.Proofs.Ytmppdgjnibamlab.Pag
