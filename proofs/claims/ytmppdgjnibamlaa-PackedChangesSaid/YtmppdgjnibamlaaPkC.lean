/- A page behind a captured variable, a row beside it; the literals of packed.Changes and packed.Points. -/
import Derived.Test.YtmppdgjnibamlaaPkB
namespace Go.Proofs.Ytmppdgjnibamlaa.Pag
open Go.RowKit Go.Proofs.YtmppdgjnibamlaaW.PrintWords
set_option linter.unusedVariables false
set_option linter.unusedSimpArgs false

/-- Block bx holds the captured variable, which points to the page at block g; v is a row of the call's own. -/
def Boxd (w0 wr : World) (base bx g : Nat) (B : List Int) (v : Value) (zs : List Int) : Prop :=
  ∃ ok, Pg wr base ok g B [] false ∧ wr.heap[bx]? = some (.cells #[.pointer (some ⟨g, 0, none⟩)] 24 (0, 0)) ∧ ¬ ok bx ∧ base ≤ bx ∧
    wr.ownsRow base 3 1 v zs.length (nums .i64 zs) ∧ (∀ k, v.ownBlock = some k → ¬ ok k) ∧ Below base w0 wr

section
variable {w0 wr w1 : World} {base bx g : Nat} {B B1 : List Int} {v : Value} {zs : List Int}
theorem Boxd.base_le (h : Boxd w0 wr base bx g B v zs) : base ≤ wr.heap.size := by
  obtain ⟨ok, h1, -⟩ := h
  exact h1.base_le
theorem Boxd.bel (h : Boxd w0 wr base bx g B v zs) : Below base w0 wr := by
  obtain ⟨ok, h1, h2, h3, h4, h5, h6, h7⟩ := h
  exact h7
theorem Boxd.pg (h : Boxd w0 wr base bx g B v zs) : ∃ ok, Pg wr base ok g B [] false := by
  obtain ⟨ok, h1, -⟩ := h
  exact ⟨ok, h1⟩
theorem Boxd.own (h : Boxd w0 wr base bx g B v zs) : wr.ownsRow base 3 1 v zs.length (nums .i64 zs) := by
  obtain ⟨ok, h1, h2, h3, h4, h5, h6, h7⟩ := h
  exact h5
theorem Boxd.cell (h : Boxd w0 wr base bx g B v zs) : wr.cell? ⟨bx, 0, none⟩ = some (.pointer (some ⟨g, 0, none⟩)) := by
  obtain ⟨ok, h1, h2, h3, h4, h5, h6, h7⟩ := h
  exact (blk_cell h2 0).trans rfl
/-- A call on the page. -/
theorem Boxd.call (h : Boxd w0 wr base bx g B v zs) {n : Nat} {args : Array Value} {E : Ending} {fl1 : Bool} (hc : ∀ ok, Pg wr base ok g B [] false → Calls Try.prog n args wr fun e w' => e = E ∧ Pst base ok wr w' g B1 [] fl1) (hf : fl1 = false) :
    Calls Try.prog n args wr fun e w' => e = E ∧ Boxd w0 w' base bx g B1 v zs := by
  subst hf
  obtain ⟨ok, h1, h2, h3, h4, h5, h6, h7⟩ := h
  have hlt : bx < wr.heap.size := blk_lt h2
  refine (hc ok h1).mono fun e w' ⟨he, hP⟩ => ⟨he, ⟨_, hP.pg, (hP.kept.2 bx hlt h3).trans h2, fun hk => ?_, h4, own_move h5 fun k e => hP.kept.2 k (own_lt h5 k e) (h6 k e), fun k e hk => ?_, h7.trans hP.below⟩⟩
  · rcases hk with hk | hk
    · exact h3 hk
    · omega
  · rcases hk with hk | hk
    · exact h6 k e hk
    · have := own_lt h5 k e
      omega
theorem Boxd.below (h : Boxd w0 wr base bx g B v zs) (hb : Below wr.heap.size wr w1) : Boxd w0 w1 base bx g B v zs := by
  have hbase := h.base_le
  obtain ⟨ok, h1, h2, h3, h4, h5, h6, h7⟩ := h
  exact ⟨ok, h1.below hb, (hb.block bx (blk_lt h2)).trans h2, h3, h4, pw_own_below h5 hb, h6, below_then h7 hbase hb⟩
theorem Boxd.drewN (h : Boxd w0 wr base bx g B v zs) (n : Nat) : Boxd w0 (wr.drewN n) base bx g B v zs := by
  obtain ⟨ok, h1, h2, h3, h4, h5, h6, h7⟩ := h
  exact ⟨ok, h1.drewN n, h2, h3, h4, h5, h6, pw_below_drewN h7 n⟩
end

theorem over_few {B : List Int} (h : B.length ≤ 1048576) : over false B = false := by simp [over]; omega
theorem pkput1 (B : List Int) (x : Int) (hB : B.length ≤ 1000000) (h0 : -128 ≤ x) (h1 : x < 256) : putB false B x 1 = B ++ [x % 256] ∧ putF false B x 1 = false := by
  have ho := over_few (B := B) (by omega)
  unfold putB putF
  rw [if_neg (by simp [ho]), if_neg (by omega), if_neg (by simp [ho]), if_neg (by omega)]
  exact ⟨by simp [be], rfl⟩
theorem pkput2 (B : List Int) (x : Int) (hB : B.length ≤ 1000000) (h0 : -32768 ≤ x) (h1 : x < 65536) : putB false B x 2 = B ++ [x / 256 % 256, x % 256] ∧ putF false B x 2 = false := by
  have ho := over_few (B := B) (by omega)
  unfold putB putF
  rw [if_neg (by simp [ho]), if_neg (by omega), if_neg (by simp [ho]), if_neg (by omega)]
  exact ⟨by simp [be, List.range_succ], rfl⟩

theorem Boxd.put8 {w0 wr : World} {base bx g : Nat} {B : List Int} {v : Value} {zs : List Int} (h : Boxd w0 wr base bx g B v zs) (x : Int) (hB : B.length ≤ 1000000) (h0 : -128 ≤ x) (h1 : x < 256) :
    Calls Try.prog 19 #[.pointer (some ⟨g, 0, none⟩), .int .i64 x] wr fun e w' => e = .returned (.tuple #[]) ∧ Boxd w0 w' base bx g (B ++ [x % 256]) v zs := by
  have e := pkput1 B x hB h0 h1
  have := h.call (fun ok h => Put8_calls h x) e.2
  rwa [e.1] at this
theorem Boxd.put16 {w0 wr : World} {base bx g : Nat} {B : List Int} {v : Value} {zs : List Int} (h : Boxd w0 wr base bx g B v zs) (x : Int) (hB : B.length ≤ 1000000) (h0 : -32768 ≤ x) (h1 : x < 65536) :
    Calls Try.prog 18 #[.pointer (some ⟨g, 0, none⟩), .int .i64 x] wr fun e w' => e = .returned (.tuple #[]) ∧ Boxd w0 w' base bx g (B ++ [x / 256 % 256, x % 256]) v zs := by
  have e := pkput2 B x hB h0 h1
  have := h.call (fun ok h => Put16_calls h x) e.2
  rwa [e.1] at this

def b1 (x : Int) : List Int := [x % 256]
def b2 (x : Int) : List Int := [x / 256 % 256, x % 256]
def b0 (x : Int) : List Int := []
theorem flat_step (f : Int → List Int) (xs : List Int) (j : Nat) (h : j < xs.length) : (xs.take (j + 1)).flatMap f = (xs.take j).flatMap f ++ f (rd xs (j : Int)) := by
  rw [List.take_succ_eq_append_getElem h, List.flatMap_append]
  simp [rd, h]
theorem flat_len (f : Int → List Int) (n : Nat) (hf : ∀ x, (f x).length ≤ n) (xs : List Int) : (xs.flatMap f).length ≤ n * xs.length := by
  induction xs with
  | nil => simp
  | cons x xs ih => rw [List.flatMap_cons, List.length_append, List.length_cons, Nat.mul_succ]; have := hf x; omega
theorem rd_in {l : List Int} {j : Nat} (h : j < l.length) : rd l (j : Int) ∈ l := by
  have : rd l (j : Int) = l[j] := by simp [rd, h]
  rw [this]
  exact List.getElem_mem h

section
variable {w0 w : World} {base bx g : Nat} {B : List Int} {v : Value} {zs : List Int}
set_option maxHeartbeats 1000000 in
set_option maxRecDepth 100000 in
theorem changes0_calls (h : Boxd w0 w base bx g B v zs) (A : Option Addr) (c : Nat) (xs : List Int) (hC : ∀ W B', Boxd w0 W base bx g B' v zs → Kd.C (Kd.int .i64) W A xs.length xs) (hc : xs.length ≤ c) (hl : 1 ≤ xs.length ∧ xs.length ≤ 64) (hB : B.length ≤ 100000)
    (hx : ∀ x ∈ xs, -128 ≤ x ∧ x ≤ 127) :
    Calls Try.prog 70 #[.int .i64 0, .slice A xs.length c, .pointer (some ⟨bx, 0, none⟩)] w fun e w' => e = .returned (.tuple #[]) ∧ Boxd w0 w' base bx g (B ++ (xs.length - 1 : Int) :: xs.flatMap b1) v zs := by
  have HC := Aside0.mk hC
  have HX := Aside0.mk hx
  have HT := Aside0.mk h
  have hcell := h.cell
  obtain ⟨hl1, hl2⟩ := hl
  clear hC hx h
  go_enter Try.func70, Try.ntmps70
  go_wp2_with (go_at_call 19; refine (HT.out.put8 _ (by omega) (by omega) (by omega)).mono ?_; rintro e w2 ⟨rfl, hT⟩; have HT2 := Aside0.mk hT; clear hT)
  have HT3 := Aside0.mk (show Boxd w0 w2 base bx g (B ++ (xs.length - 1 : Int) :: (xs.take 0).flatMap b1) v zs by
    have h2 := HT2.out
    rw [show ((xs.length : Int) - 1) % 256 = (xs.length : Int) - 1 by omega] at h2
    exact h2)
  clear HT HT2 hcell
  go_loopw [17] (fun i wr => ∃ j : Nat, i = .int .i64 (j : Int) ∧ Aside0 (j ≤ xs.length) ∧ Aside0 (Boxd w0 wr base bx g (B ++ (xs.length - 1 : Int) :: (xs.take j).flatMap b1) v zs)) (fun i _ => xs.length - (intOf i).toNat)
  case atStart => exact ⟨0, rfl, ⟨by omega⟩, HT3⟩
  case round =>
    obtain ⟨j, rfl, HJ, HT⟩ := hrel
    have hj := HJ.out
    have hcell := HT.out.cell
    by_cases hlt : j < xs.length
    · have hC2 := HC.out _ _ HT.out
      obtain ⟨ad, had, -⟩ := (C_reads hC2).at_ (j : Int) (by omega) (by omega)
      subst had
      have hc2 := (cell_at hC2 j hlt).2 _ rfl
      obtain ⟨hx0, hx1⟩ := HX.out _ (rd_in hlt)
      have HLB := Aside0.mk (show (B ++ (xs.length - 1 : Int) :: (xs.take j).flatMap b1).length ≤ 1000000 by
        have := flat_len b1 1 (fun x => by simp [b1]) (xs.take j)
        rw [List.length_take] at this
        rw [List.length_append, List.length_cons]; omega)
      clear hC2 hj
      go_wp2_with (go_at_call 19; refine (HT.out.put8 _ HLB.out (by omega) (by omega)).mono ?_; rintro e w3 ⟨rfl, hT⟩; have HT4 := Aside0.mk hT; clear hT HT)
      go_roundw
      case rel =>
        refine ⟨j + 1, by go_num, ⟨by omega⟩, ⟨?_⟩⟩
        have h4 := HT4.out
        rw [List.append_assoc, List.cons_append, show [rd xs (j : Int) % 256] = b1 (rd xs (j : Int)) from rfl, ← flat_step b1 xs j hlt] at h4
        exact h4
      case measure => simp [intOf]; omega
    · obtain rfl : j = xs.length := by omega
      clear hj
      go_wp2_with fail
      first | go_end0 | ((try simp only [Exit.inBlock, Exit.then]); refine bodyPost_ret (results_none rfl _ _ _) rfl ?_)
      exact ⟨rfl, by have h5 := HT.out; rw [List.take_of_length_le (Nat.le_refl _)] at h5; exact h5⟩
set_option maxHeartbeats 1000000 in
set_option maxRecDepth 100000 in
theorem changes1_calls (h : Boxd w0 w base bx g B v zs) (A : Option Addr) (c : Nat) (xs : List Int) (hC : ∀ W B', Boxd w0 W base bx g B' v zs → Kd.C (Kd.int .i64) W A xs.length xs) (hc : xs.length ≤ c) (hl : 1 ≤ xs.length ∧ xs.length ≤ 64) (hB : B.length ≤ 100000)
    (hx : ∀ x ∈ xs, -32768 ≤ x ∧ x ≤ 32767) :
    Calls Try.prog 70 #[.int .i64 1, .slice A xs.length c, .pointer (some ⟨bx, 0, none⟩)] w fun e w' => e = .returned (.tuple #[]) ∧ Boxd w0 w' base bx g (B ++ (64 + xs.length - 1 : Int) :: xs.flatMap b2) v zs := by
  have HC := Aside0.mk hC
  have HX := Aside0.mk hx
  have HT := Aside0.mk h
  have hcell := h.cell
  obtain ⟨hl1, hl2⟩ := hl
  clear hC hx h
  go_enter Try.func70, Try.ntmps70
  go_wp2_with (go_at_call 19; refine (HT.out.put8 _ (by omega) (by omega) (by omega)).mono ?_; rintro e w2 ⟨rfl, hT⟩; have HT2 := Aside0.mk hT; clear hT)
  have HT3 := Aside0.mk (show Boxd w0 w2 base bx g (B ++ (64 + xs.length - 1 : Int) :: (xs.take 0).flatMap b2) v zs by
    have h2 := HT2.out
    rw [show (64 + (xs.length : Int) - 1) % 256 = 64 + (xs.length : Int) - 1 by omega] at h2
    exact h2)
  clear HT HT2 hcell
  go_loopw [17] (fun i wr => ∃ j : Nat, i = .int .i64 (j : Int) ∧ Aside0 (j ≤ xs.length) ∧ Aside0 (Boxd w0 wr base bx g (B ++ (64 + xs.length - 1 : Int) :: (xs.take j).flatMap b2) v zs)) (fun i _ => xs.length - (intOf i).toNat)
  case atStart => exact ⟨0, rfl, ⟨by omega⟩, HT3⟩
  case round =>
    obtain ⟨j, rfl, HJ, HT⟩ := hrel
    have hj := HJ.out
    have hcell := HT.out.cell
    by_cases hlt : j < xs.length
    · have hC2 := HC.out _ _ HT.out
      obtain ⟨ad, had, -⟩ := (C_reads hC2).at_ (j : Int) (by omega) (by omega)
      subst had
      have hc2 := (cell_at hC2 j hlt).2 _ rfl
      obtain ⟨hx0, hx1⟩ := HX.out _ (rd_in hlt)
      have HLB := Aside0.mk (show (B ++ (64 + xs.length - 1 : Int) :: (xs.take j).flatMap b2).length ≤ 1000000 by
        have := flat_len b2 2 (fun x => by simp [b2]) (xs.take j)
        rw [List.length_take] at this
        rw [List.length_append, List.length_cons]; omega)
      clear hC2 hj
      go_wp2_with (go_at_call 18; refine (HT.out.put16 _ HLB.out (by omega) (by omega)).mono ?_; rintro e w3 ⟨rfl, hT⟩; have HT4 := Aside0.mk hT; clear hT HT)
      go_roundw
      case rel =>
        refine ⟨j + 1, by go_num, ⟨by omega⟩, ⟨?_⟩⟩
        have h4 := HT4.out
        rw [List.append_assoc, List.cons_append, show [rd xs (j : Int) / 256 % 256, rd xs (j : Int) % 256] = b2 (rd xs (j : Int)) from rfl, ← flat_step b2 xs j hlt] at h4
        exact h4
      case measure => simp [intOf]; omega
    · obtain rfl : j = xs.length := by omega
      clear hj
      go_wp2_with fail
      first | go_end0 | ((try simp only [Exit.inBlock, Exit.then]); refine bodyPost_ret (results_none rfl _ _ _) rfl ?_)
      exact ⟨rfl, by have h5 := HT.out; rw [List.take_of_length_le (Nat.le_refl _)] at h5; exact h5⟩
set_option maxHeartbeats 1000000 in
set_option maxRecDepth 100000 in
theorem changes2_calls (h : Boxd w0 w base bx g B v zs) (A : Option Addr) (c : Nat) (xs : List Int) (hC : ∀ W B', Boxd w0 W base bx g B' v zs → Kd.C (Kd.int .i64) W A xs.length xs) (hc : xs.length ≤ c) (hl : 1 ≤ xs.length ∧ xs.length ≤ 64) (hB : B.length ≤ 100000)
    (hx : ∀ x ∈ xs, 0 ≤ x ∧ x ≤ 0) :
    Calls Try.prog 70 #[.int .i64 2, .slice A xs.length c, .pointer (some ⟨bx, 0, none⟩)] w fun e w' => e = .returned (.tuple #[]) ∧ Boxd w0 w' base bx g (B ++ (128 + xs.length - 1 : Int) :: xs.flatMap b0) v zs := by
  have HC := Aside0.mk hC
  have HX := Aside0.mk hx
  have HT := Aside0.mk h
  have hcell := h.cell
  obtain ⟨hl1, hl2⟩ := hl
  clear hC hx h
  go_enter Try.func70, Try.ntmps70
  go_wp2_with (go_at_call 19; refine (HT.out.put8 _ (by omega) (by omega) (by omega)).mono ?_; rintro e w2 ⟨rfl, hT⟩; have HT2 := Aside0.mk hT; clear hT)
  have HT3 := Aside0.mk (show Boxd w0 w2 base bx g (B ++ (128 + xs.length - 1 : Int) :: (xs.take 0).flatMap b0) v zs by
    have h2 := HT2.out
    rw [show (128 + (xs.length : Int) - 1) % 256 = 128 + (xs.length : Int) - 1 by omega] at h2
    exact h2)
  clear HT HT2 hcell
  go_loopw [17] (fun i wr => ∃ j : Nat, i = .int .i64 (j : Int) ∧ Aside0 (j ≤ xs.length) ∧ Aside0 (Boxd w0 wr base bx g (B ++ (128 + xs.length - 1 : Int) :: (xs.take j).flatMap b0) v zs)) (fun i _ => xs.length - (intOf i).toNat)
  case atStart => exact ⟨0, rfl, ⟨by omega⟩, HT3⟩
  case round =>
    obtain ⟨j, rfl, HJ, HT⟩ := hrel
    have hj := HJ.out
    have hcell := HT.out.cell
    by_cases hlt : j < xs.length
    · have hC2 := HC.out _ _ HT.out
      obtain ⟨ad, had, -⟩ := (C_reads hC2).at_ (j : Int) (by omega) (by omega)
      subst had
      have hc2 := (cell_at hC2 j hlt).2 _ rfl
      obtain ⟨hx0, hx1⟩ := HX.out _ (rd_in hlt)
      have HLB := Aside0.mk (show (B ++ (128 + xs.length - 1 : Int) :: (xs.take j).flatMap b0).length ≤ 1000000 by
        have := flat_len b0 0 (fun x => by simp [b0]) (xs.take j)
        rw [List.length_take] at this
        rw [List.length_append, List.length_cons]; omega)
      clear hC2 hj
      go_wp2_with fail
      go_roundw
      case rel =>
        refine ⟨j + 1, by go_num, ⟨by omega⟩, ⟨?_⟩⟩
        rw [flat_step b0 xs j hlt, show b0 (rd xs (j : Int)) = [] from rfl, List.append_nil]
        exact HT.out
      case measure => simp [intOf]; omega
    · obtain rfl : j = xs.length := by omega
      clear hj
      go_wp2_with fail
      first | go_end0 | ((try simp only [Exit.inBlock, Exit.then]); refine bodyPost_ret (results_none rfl _ _ _) rfl ?_)
      exact ⟨rfl, by have h5 := HT.out; rw [List.take_of_length_le (Nat.le_refl _)] at h5; exact h5⟩
set_option maxHeartbeats 1000000 in
set_option maxRecDepth 100000 in
theorem points0_calls (h : Boxd w0 w base bx g B v zs) (A : Option Addr) (c : Nat) (xs : List Int) (hC : ∀ W B', Boxd w0 W base bx g B' v zs → Kd.C (Kd.int .i64) W A xs.length xs) (hc : xs.length ≤ c) (hl : 1 ≤ xs.length ∧ xs.length ≤ 128) (hB : B.length ≤ 100000)
    (hx : ∀ x ∈ xs, 0 ≤ x ∧ x ≤ 255) :
    Calls Try.prog 73 #[.int .i64 0, .slice A xs.length c, .pointer (some ⟨bx, 0, none⟩)] w fun e w' => e = .returned (.tuple #[]) ∧ Boxd w0 w' base bx g (B ++ (xs.length - 1 : Int) :: xs.flatMap b1) v zs := by
  have HC := Aside0.mk hC
  have HX := Aside0.mk hx
  have HT := Aside0.mk h
  have hcell := h.cell
  obtain ⟨hl1, hl2⟩ := hl
  clear hC hx h
  go_enter Try.func73, Try.ntmps73
  go_wp2_with (go_at_call 19; refine (HT.out.put8 _ (by omega) (by omega) (by omega)).mono ?_; rintro e w2 ⟨rfl, hT⟩; have HT2 := Aside0.mk hT; clear hT)
  have HT3 := Aside0.mk (show Boxd w0 w2 base bx g (B ++ (xs.length - 1 : Int) :: (xs.take 0).flatMap b1) v zs by
    have h2 := HT2.out
    rw [show ((xs.length : Int) - 1) % 256 = (xs.length : Int) - 1 by omega] at h2
    exact h2)
  clear HT HT2 hcell
  go_loopw [17] (fun i wr => ∃ j : Nat, i = .int .i64 (j : Int) ∧ Aside0 (j ≤ xs.length) ∧ Aside0 (Boxd w0 wr base bx g (B ++ (xs.length - 1 : Int) :: (xs.take j).flatMap b1) v zs)) (fun i _ => xs.length - (intOf i).toNat)
  case atStart => exact ⟨0, rfl, ⟨by omega⟩, HT3⟩
  case round =>
    obtain ⟨j, rfl, HJ, HT⟩ := hrel
    have hj := HJ.out
    have hcell := HT.out.cell
    by_cases hlt : j < xs.length
    · have hC2 := HC.out _ _ HT.out
      obtain ⟨ad, had, -⟩ := (C_reads hC2).at_ (j : Int) (by omega) (by omega)
      subst had
      have hc2 := (cell_at hC2 j hlt).2 _ rfl
      obtain ⟨hx0, hx1⟩ := HX.out _ (rd_in hlt)
      have HLB := Aside0.mk (show (B ++ (xs.length - 1 : Int) :: (xs.take j).flatMap b1).length ≤ 1000000 by
        have := flat_len b1 1 (fun x => by simp [b1]) (xs.take j)
        rw [List.length_take] at this
        rw [List.length_append, List.length_cons]; omega)
      clear hC2 hj
      go_wp2_with (go_at_call 19; refine (HT.out.put8 _ HLB.out (by omega) (by omega)).mono ?_; rintro e w3 ⟨rfl, hT⟩; have HT4 := Aside0.mk hT; clear hT HT)
      go_roundw
      case rel =>
        refine ⟨j + 1, by go_num, ⟨by omega⟩, ⟨?_⟩⟩
        have h4 := HT4.out
        rw [List.append_assoc, List.cons_append, show [rd xs (j : Int) % 256] = b1 (rd xs (j : Int)) from rfl, ← flat_step b1 xs j hlt] at h4
        exact h4
      case measure => simp [intOf]; omega
    · obtain rfl : j = xs.length := by omega
      clear hj
      go_wp2_with fail
      first | go_end0 | ((try simp only [Exit.inBlock, Exit.then]); refine bodyPost_ret (results_none rfl _ _ _) rfl ?_)
      exact ⟨rfl, by have h5 := HT.out; rw [List.take_of_length_le (Nat.le_refl _)] at h5; exact h5⟩
set_option maxHeartbeats 1000000 in
set_option maxRecDepth 100000 in
theorem points1_calls (h : Boxd w0 w base bx g B v zs) (A : Option Addr) (c : Nat) (xs : List Int) (hC : ∀ W B', Boxd w0 W base bx g B' v zs → Kd.C (Kd.int .i64) W A xs.length xs) (hc : xs.length ≤ c) (hl : 1 ≤ xs.length ∧ xs.length ≤ 128) (hB : B.length ≤ 100000)
    (hx : ∀ x ∈ xs, 0 ≤ x ∧ x ≤ 65535) :
    Calls Try.prog 73 #[.int .i64 1, .slice A xs.length c, .pointer (some ⟨bx, 0, none⟩)] w fun e w' => e = .returned (.tuple #[]) ∧ Boxd w0 w' base bx g (B ++ (128 + xs.length - 1 : Int) :: xs.flatMap b2) v zs := by
  have HC := Aside0.mk hC
  have HX := Aside0.mk hx
  have HT := Aside0.mk h
  have hcell := h.cell
  obtain ⟨hl1, hl2⟩ := hl
  clear hC hx h
  go_enter Try.func73, Try.ntmps73
  go_wp2_with (go_at_call 19; refine (HT.out.put8 _ (by omega) (by omega) (by omega)).mono ?_; rintro e w2 ⟨rfl, hT⟩; have HT2 := Aside0.mk hT; clear hT)
  have HT3 := Aside0.mk (show Boxd w0 w2 base bx g (B ++ (128 + xs.length - 1 : Int) :: (xs.take 0).flatMap b2) v zs by
    have h2 := HT2.out
    rw [show (128 + (xs.length : Int) - 1) % 256 = 128 + (xs.length : Int) - 1 by omega] at h2
    exact h2)
  clear HT HT2 hcell
  go_loopw [17] (fun i wr => ∃ j : Nat, i = .int .i64 (j : Int) ∧ Aside0 (j ≤ xs.length) ∧ Aside0 (Boxd w0 wr base bx g (B ++ (128 + xs.length - 1 : Int) :: (xs.take j).flatMap b2) v zs)) (fun i _ => xs.length - (intOf i).toNat)
  case atStart => exact ⟨0, rfl, ⟨by omega⟩, HT3⟩
  case round =>
    obtain ⟨j, rfl, HJ, HT⟩ := hrel
    have hj := HJ.out
    have hcell := HT.out.cell
    by_cases hlt : j < xs.length
    · have hC2 := HC.out _ _ HT.out
      obtain ⟨ad, had, -⟩ := (C_reads hC2).at_ (j : Int) (by omega) (by omega)
      subst had
      have hc2 := (cell_at hC2 j hlt).2 _ rfl
      obtain ⟨hx0, hx1⟩ := HX.out _ (rd_in hlt)
      have HLB := Aside0.mk (show (B ++ (128 + xs.length - 1 : Int) :: (xs.take j).flatMap b2).length ≤ 1000000 by
        have := flat_len b2 2 (fun x => by simp [b2]) (xs.take j)
        rw [List.length_take] at this
        rw [List.length_append, List.length_cons]; omega)
      clear hC2 hj
      go_wp2_with (go_at_call 18; refine (HT.out.put16 _ HLB.out (by omega) (by omega)).mono ?_; rintro e w3 ⟨rfl, hT⟩; have HT4 := Aside0.mk hT; clear hT HT)
      go_roundw
      case rel =>
        refine ⟨j + 1, by go_num, ⟨by omega⟩, ⟨?_⟩⟩
        have h4 := HT4.out
        rw [List.append_assoc, List.cons_append, show [rd xs (j : Int) / 256 % 256, rd xs (j : Int) % 256] = b2 (rd xs (j : Int)) from rfl, ← flat_step b2 xs j hlt] at h4
        exact h4
      case measure => simp [intOf]; omega
    · obtain rfl : j = xs.length := by omega
      clear hj
      go_wp2_with fail
      first | go_end0 | ((try simp only [Exit.inBlock, Exit.then]); refine bodyPost_ret (results_none rfl _ _ _) rfl ?_)
      exact ⟨rfl, by have h5 := HT.out; rw [List.take_of_length_le (Nat.le_refl _)] at h5; exact h5⟩
end
end Go.Proofs.Ytmppdgjnibamlaa.Pag
