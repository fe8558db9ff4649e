/- The contract of slices.Clone at whole numbers, in the print's form. -/
import Derived.Test.YtmppdgjnibamlabPgF
namespace Go.Proofs.Ytmppdgjnibamlab.Pag
open Go.RowKit Go.Proofs.YtmppdgjnibamlabW.PrintWords
set_option linter.unusedVariables false
set_option linter.unusedSimpArgs false

def slices_Clone_int_int.f (l0 : List Int) : Option (List Int) := if l0.length ≤ 17592186044416 then some l0 else none

set_option maxHeartbeats 1000000 in
set_option maxRecDepth 100000 in
theorem slices_Clone_int_int.calls (A0 : Option Addr) (c0 : Nat) (l0 : List Int) (r : List Int) (w : World) (hr0 : Kd.C (Kd.int .i64) w A0 l0.length l0) (hc0 : l0.length ≤ c0) (h : slices_Clone_int_int.f l0 = some r) :
    Calls Try.prog 66 #[.slice A0 l0.length c0] w fun e w' => ∃ v0_ : Value, e = .returned (v0_) ∧ Kd.R (Kd.int .i64) 3 w' w.heap.size (fun _ => True) v0_ r ∧ Below w.heap.size w w' := by
  have hlen : l0.length ≤ 17592186044416 := by
    unfold slices_Clone_int_int.f at h
    split at h
    · assumption
    · cases h
  obtain rfl : l0 = r := by simpa [slices_Clone_int_int.f, hlen] using h
  have HL := Aside0.mk hlen
  have HR := Aside0.mk (C_reads hr0)
  clear hlen h hr0 hc0
  cases A0 with
  | none =>
    have HZ : Aside0 (l0 = []) := Aside0.mk <| by
      rcases Nat.eq_zero_or_pos l0.length with h0 | h0
      · exact List.eq_nil_of_length_eq_zero h0
      · obtain ⟨ad, h, _⟩ := HR.out.2.2 h0
        cases h
    have HE := Aside0.mk (Kd.R_nil (Kd.int .i64) 3 w w.heap.size (fun _ => True))
    have hq := fun (W : World) => Lib.run_eql_slice_nil W 48 3 none l0.length c0 0 0 Try.underlying48
    go_enter Try.func66, Try.ntmps66
    go_wp2
    go_ret
    exact ⟨_, rfl, by rw [HZ.out]; exact HE.out, Below.refl _ _⟩
  | some ad =>
    have hq := fun (W : World) => Lib.run_eql_slice_nil W 48 3 (some ad) l0.length c0 0 0 Try.underlying48
    go_enter Try.func66, Try.ntmps66
    go_wp2_with (at_builtin; refine print_append_row (w0 := w) w.heap.size rfl (.tmp 5) (.tmp 6) 48 3 .i64 8 rfl Try.underlying48 infoI (by decide) _ [] l0 (some ad) l0.length c0 rfl rfl (own_lit w w.heap.size 3 .i64 [] (Nat.le_refl _) (by simp)) (HR.out.below ((Below.refl _ _).alloc (Nat.le_refl _) _)) ((Below.refl _ _).alloc (Nat.le_refl _) _) (by simp) (by have := HL.out; simp; omega) ?_; intro v1 w1 hown hB hg hat; have HO := Aside0.mk hown; have HB := Aside0.mk hB; clear hown hB hg hat)
    go_ret
    exact ⟨_, rfl, own_R (by simpa using HO.out) (fun _ _ => trivial), HB.out⟩
end Go.Proofs.Ytmppdgjnibamlab.Pag
