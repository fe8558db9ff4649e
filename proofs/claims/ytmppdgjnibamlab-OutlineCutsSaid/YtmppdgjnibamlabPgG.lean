/- Contracts of All, PutBytes, Good, PutTag of octets.Page. -/
import Derived.Test.YtmppdgjnibamlabPgF
namespace Go.Proofs.Ytmppdgjnibamlab.Pag
open Go.RowKit Go.Proofs.YtmppdgjnibamlabW.PrintWords
set_option linter.unusedVariables false
set_option linter.unusedSimpArgs false

def allB (fl : Bool) (B Wt : List Int) : List Int := if fl = true then [] else if 0 < Wt.length then [] else if 1048576 < B.length then [] else B
def allE (fl : Bool) (B Wt : List Int) : Int := if fl = true then 4 else if 0 < Wt.length then 1 else if 1048576 < B.length then 3 else 0

set_option maxHeartbeats 1000000 in
set_option maxRecDepth 100000 in
theorem All_calls {w : World} {base g : Nat} {ok : Nat → Prop} {B Wt : List Int} {fl : Bool} (h : Pg w base ok g B Wt fl) :
    Calls Try.prog 48 #[.pointer (some ⟨g, 0, none⟩)] w fun e w' => ∃ v, e = .returned (.tuple #[v, .int .i64 (allE fl B Wt)]) ∧ Kd.R (Kd.int .u8) 5 w' w.heap.size (fun _ => True) v (allB fl B Wt) ∧ Below w.heap.size w w' := by
  have HN := Aside0.mk (Kd.R_nil (Kd.int .u8) 5 w w.heap.size (fun _ => True))
  obtain ⟨v1, v2, hb, h1, h2, h3, h4, h5, h6⟩ := h
  obtain ⟨A1, c1, rfl, hle, hC⟩ := Kd.R_reads (own_R h3 h5)
  obtain ⟨A2, c2, rfl⟩ := own_slice h4
  have C0 : w.cell? ⟨g, 0, none⟩ = some (.slice A1 B.length c1) := (blk_cell hb 0).trans rfl
  have C1 : w.cell? ⟨g, 1, none⟩ = some (.slice A2 Wt.length c2) := (blk_cell hb 1).trans rfl
  have C2 : w.cell? ⟨g, 2, none⟩ = some (.bool fl) := (blk_cell hb 2).trans rfl
  have HK := Aside0.mk (And.intro hle hC)
  clear hb h1 h2 h3 h4 h5 h6 hle hC
  cases fl with
  | true =>
    go_enter Try.func48, Try.ntmps48
    go_wp2
    go_ret2
    exact ⟨_, rfl, HN.out, Below.refl _ _⟩
  | false =>
    by_cases hW : 0 < Wt.length
    · have e1 := Aside0.mk (show allE false B Wt = 1 by simp [allE, hW])
      have e2 := Aside0.mk (show allB false B Wt = [] by simp [allB, hW])
      go_enter Try.func48, Try.ntmps48
      go_wp2
      go_ret2
      rw [e1.out, e2.out]
      exact ⟨_, rfl, HN.out, Below.refl _ _⟩
    · by_cases hL : 1048576 < B.length
      · have e1 := Aside0.mk (show allE false B Wt = 3 by simp [allE, hW, hL])
        have e2 := Aside0.mk (show allB false B Wt = [] by simp [allB, hW, hL])
        go_enter Try.func48, Try.ntmps48
        go_wp2
        go_ret2
        rw [e1.out, e2.out]
        exact ⟨_, rfl, HN.out, Below.refl _ _⟩
      · have e1 := Aside0.mk (show allE false B Wt = 0 by simp [allE, hW, hL])
        have e2 := Aside0.mk (show allB false B Wt = B by simp [allB, hW, hL])
        have HCl := Aside0.mk (slices_Clone_byte_byte.calls A1 c1 B B w HK.out.2 HK.out.1 (by unfold slices_Clone_byte_byte.f; rw [if_pos (by omega)]))
        go_enter Try.func48, Try.ntmps48
        go_wp2_with (go_at_call 84; refine HCl.out.mono ?_; rintro e w' ⟨v0, rfl, hR, hB⟩; have HR := Aside0.mk hR; have HB := Aside0.mk hB; clear hR hB)
        go_ret2
        rw [e1.out, e2.out]
        exact ⟨_, rfl, HR.out, HB.out⟩

def putsB (fl : Bool) (B ys : List Int) : List Int := if over fl B = true then B else B ++ ys

set_option maxHeartbeats 1000000 in
set_option maxRecDepth 100000 in
theorem PutBytes_calls {w : World} {base g : Nat} {ok : Nat → Prop} {B Wt : List Int} {fl : Bool} (h : Pg w base ok g B Wt fl) (A0 : Option Addr) (c0 : Nat) (l0 : List Int) (hr0 : Kd.C (Kd.int .u8) w A0 l0.length l0) (hl : l0.length ≤ 100000000000) :
    Calls Try.prog 79 #[.pointer (some ⟨g, 0, none⟩), .slice A0 l0.length c0] w fun e w' => e = .returned (.tuple #[]) ∧ Pst base ok w w' g (putsB fl B l0) Wt fl := by
  have HC := Aside0.mk (over_calls h)
  have HP := Aside0.mk (Pst.refl h)
  have HR := Aside0.mk (C_reads hr0)
  have HL := Aside0.mk hl
  by_cases ho : over fl B = true
  · have e1 := Aside0.mk (show putsB fl B l0 = B by simp [putsB, ho])
    clear h hr0 hl
    go_enter Try.func79, Try.ntmps79
    go_wp2_with (go_at_call 112; refine HC.out.mono ?_; rintro e w' ⟨rfl, rfl⟩)
    first | go_end0 | ((try simp only [Exit.inBlock, Exit.then]); refine bodyPost_ret (results_none rfl _ _ _) rfl ?_)
    exact ⟨rfl, by rw [e1.out]; exact HP.out⟩
  · have ho' : over fl B = false := by simpa using ho
    have HL2 : Aside0 (B.length ≤ 1048576) := Aside0.mk (by simp [over] at ho; omega)
    have e1 := Aside0.mk (show putsB fl B l0 = B ++ l0 by simp [putsB, ho])
    clear ho
    obtain ⟨v1, v2, hb, h1, h2, h3, h4, h5, h6⟩ := h
    obtain ⟨A1, c1, rfl⟩ := own_slice h3
    have C0 : w.cell? ⟨g, 0, none⟩ = some (.slice A1 B.length c1) := (blk_cell hb 0).trans rfl
    clear hb h1 h2 h3 h4 h5 h6 hr0 hl
    go_enter Try.func79, Try.ntmps79
    go_wp2_with (first | (go_at_call 112; refine HC.out.mono ?_; rintro e w' ⟨rfl, rfl⟩) | (at_builtin; refine pg_row rfl (.tmp 11) (.tmp 12) rfl HP.out C0 rfl A0 l0.length c0 l0 rfl (Below.refl _ _) HR.out (by have := HL.out; have := HL2.out; omega) ?_; intro A' c' w2 cc hP2 hc2 hf2; have HP2 := Aside0.mk hP2; clear hP2 C0))
    first | go_end0 | ((try simp only [Exit.inBlock, Exit.then]); refine bodyPost_ret (results_none rfl _ _ _) rfl ?_)
    exact ⟨rfl, by rw [e1.out]; exact HP2.out⟩

theorem ret_bool {a b : Bool} (h : a = b) : Ending.returned (.bool a) = .returned (.bool b) := by rw [h]
theorem ret_int {k : IntKind} {a b : Int} (h : a = b) : Ending.returned (.int k a) = .returned (.int k b) := by rw [h]
theorem size_four (s : ByteArray) : ((s.size : Int) == 4) = decide (s.size = 4) := by
  rw [Bool.eq_iff_iff]
  simp
  omega

/-- Are the bytes from number i on signs of a tag? -/
def signs (s : ByteArray) : Nat → Nat → Bool
  | 0, _ => true
  | d + 1, i => if bt s i < 32 ∨ bt s i > 126 then false else signs s d (i + 1)
/-- Is it a tag? -/
def good (s : ByteArray) : Bool := signs s s.size 0 && decide (s.size = 4)

set_option maxHeartbeats 1000000 in
set_option maxRecDepth 100000 in
theorem Good_calls (s : ByteArray) (w : World) (hs : s.size ≤ 9223372036854775807) :
    Calls Try.prog 87 #[.string s] w fun e w' => e = .returned (.bool (good s)) ∧ w = w' := by
  have hs2 : (s.size : Int) ≤ 9223372036854775807 := by omega
  clear hs
  go_enter Try.func87, Try.ntmps87
  go_wp2
  go_loop [6] (fun v => ∃ i : Nat, v = .int .i64 (i : Int) ∧ i ≤ s.size ∧ Aside0 (signs s s.size 0 = signs s (s.size - i) i)) (fun v => s.size - (intOf v).toNat)
  case atStart => exact ⟨0, rfl, by omega, ⟨rfl⟩⟩
  case round =>
    obtain ⟨i, rfl, hi, HS⟩ := hrel
    by_cases hlt : i < s.size
    · have hb := bt_range s i
      have HQ := Aside0.mk (show signs s (s.size - i) i = if bt s i < 32 ∨ bt s i > 126 then false else signs s (s.size - (i + 1)) (i + 1) by
        obtain ⟨d, hd⟩ : ∃ d, s.size - i = d + 1 := ⟨s.size - i - 1, by omega⟩
        rw [hd, show s.size - (i + 1) = d by omega]; rfl)
      have hat := bt_at s i (by simpa using hlt)
      simp only [Int.toNat_natCast] at hat
      by_cases h1 : bt s i < 32
      · have HF := Aside0.mk (show good s = false by unfold good; rw [HS.out, HQ.out, if_pos (.inl h1)]; rfl)
        go_wp2
        go_ret
        exact ⟨by rw [HF.out]; rfl, rfl⟩
      · by_cases h2 : 126 < bt s i
        · have HF := Aside0.mk (show good s = false by unfold good; rw [HS.out, HQ.out, if_pos (.inr h2)]; rfl)
          go_wp2
          go_ret
          exact ⟨by rw [HF.out]; rfl, rfl⟩
        · have HF := Aside0.mk (show signs s s.size 0 = signs s (s.size - (i + 1)) (i + 1) by rw [HS.out, HQ.out, if_neg (by omega)])
          go_wp2
          go_round
          case rel => exact ⟨i + 1, by go_num, by omega, HF⟩
          case measure => simp [intOf]; omega
    · have HF := Aside0.mk (show good s = decide (s.size = 4) by unfold good; rw [HS.out, show s.size - i = 0 by omega]; simp [signs])
      go_wp2
      go_ret
      exact ⟨ret_bool (by rw [HF.out]; exact size_four s), rfl⟩

/-- What PutTag makes of a page. -/
def tagB (fl : Bool) (B : List Int) (s : ByteArray) : List Int := if over fl B = true then B else if good s = true then B ++ bytesOf s else B
def tagF (fl : Bool) (B : List Int) (s : ByteArray) : Bool := if over fl B = true then fl else if good s = true then fl else true

set_option maxHeartbeats 1000000 in
set_option maxRecDepth 100000 in
theorem PutTag_calls {w : World} {base g : Nat} {ok : Nat → Prop} {B Wt : List Int} {fl : Bool} (h : Pg w base ok g B Wt fl) (s : ByteArray) (hs : s.size ≤ 9223372036854775807) :
    Calls Try.prog 78 #[.pointer (some ⟨g, 0, none⟩), .string s] w fun e w' => e = .returned (.tuple #[]) ∧ Pst base ok w w' g (tagB fl B s) Wt (tagF fl B s) := by
  have HC := Aside0.mk (over_calls h)
  have HG := Aside0.mk (Good_calls s w hs)
  have HP := Aside0.mk (Pst.refl h)
  clear hs
  by_cases ho : over fl B = true
  · have e1 := Aside0.mk (show tagB fl B s = B ∧ tagF fl B s = fl by simp [tagB, tagF, ho])
    clear h
    go_enter Try.func78, Try.ntmps78
    go_wp2_with (go_at_call 112; refine HC.out.mono ?_; rintro e w' ⟨rfl, rfl⟩)
    first | go_end0 | ((try simp only [Exit.inBlock, Exit.then]); refine bodyPost_ret (results_none rfl _ _ _) rfl ?_)
    exact ⟨rfl, by rw [e1.out.1, e1.out.2]; exact HP.out⟩
  · have ho' : over fl B = false := by simpa using ho
    have HL2 : Aside0 (B.length ≤ 1048576) := Aside0.mk (by simp [over] at ho; omega)
    by_cases hg : good s = true
    · have HS : Aside0 (s.size = 4) := Aside0.mk (by simp [good] at hg; exact hg.2)
      have e1 := Aside0.mk (show tagB fl B s = B ++ bytesOf s ∧ tagF fl B s = fl by simp [tagB, tagF, ho, hg])
      clear ho
      obtain ⟨v1, v2, hb, h1, h2, h3, h4, h5, h6⟩ := h
      obtain ⟨A1, c1, rfl⟩ := own_slice h3
      have C0 : w.cell? ⟨g, 0, none⟩ = some (.slice A1 B.length c1) := (blk_cell hb 0).trans rfl
      clear hb h1 h2 h3 h4 h5 h6
      go_enter Try.func78, Try.ntmps78
      go_wp2_with (first | (go_at_call 112; refine HC.out.mono ?_; rintro e w' ⟨rfl, rfl⟩) | (go_at_call 87; refine HG.out.mono ?_; rintro e w' ⟨rfl, rfl⟩) | (at_builtin; refine pg_str rfl (.tmp 15) (.tmp 16) rfl HP.out C0 rfl s rfl (by have := HS.out; have := HL2.out; omega) ?_; intro A' c' w2 cc hP2 hc2 hf2; have HP2 := Aside0.mk hP2; clear hP2 C0))
      first | go_end0 | ((try simp only [Exit.inBlock, Exit.then]); refine bodyPost_ret (results_none rfl _ _ _) rfl ?_)
      exact ⟨rfl, by rw [e1.out.1, e1.out.2]; exact HP2.out⟩
    · have e1 := Aside0.mk (show tagB fl B s = B ∧ tagF fl B s = true by simp [tagB, tagF, ho, hg])
      have hg' : good s = false := by simpa using hg
      have HF := Aside0.mk (fail_calls h)
      clear ho hg h
      go_enter Try.func78, Try.ntmps78
      go_wp2_with (first | (go_at_call 112; refine HC.out.mono ?_; rintro e w' ⟨rfl, rfl⟩) | (go_at_call 87; refine HG.out.mono ?_; rintro e w' ⟨rfl, rfl⟩) | (go_at_call 113; refine HF.out.mono ?_; rintro e w' ⟨rfl, hP2⟩))
      first | go_end0 | ((try simp only [Exit.inBlock, Exit.then]); refine bodyPost_ret (results_none rfl _ _ _) rfl ?_)
      exact ⟨rfl, by rw [e1.out.1, e1.out.2]; exact hP2⟩
end Go.Proofs.Ytmppdgjnibamlab.Pag
