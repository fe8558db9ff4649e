/- foundrylaw05.awake: the contract, in the print's form. No condition. -/
import Derived.Test.YtmppdgjnibamlabSfP
namespace Go.Proofs.Ytmppdgjnibamlab.Pag
open Go.RowKit Go.Proofs.Ytmppdgjnibamlab.PSf Go.Proofs.YtmppdgjnibamlabW.PrintWords
set_option linter.unusedVariables false
set_option linter.unusedSimpArgs false

def tabA : S115 := ⟨⟨#[97, 98, 99, 100]⟩, [7]⟩
def outA : List Int := [0, 1, 0, 0, 0, 1, 0, 16, 0, 0, 0, 0, 97, 98, 99, 100, 7, 0, 0, 0, 0, 0, 0, 28, 0, 0, 0, 1, 7, 0, 0, 0]
set_option maxRecDepth 100000 in
theorem pack_A : sfnt_Pack.f [tabA] = some (outA, 0) := by decide +kernel
theorem sum_A : sumB [7] = 117440512 := by decide +kernel
def foundrylaw05_awake.f : Option Bool := some true
theorem C_A (w : World) : Kd.C k115 ((w.alloc (.cells #[.int .u8 7] 5)).alloc (.cells #[.string ⟨#[97, 98, 99, 100]⟩, .slice (some ⟨w.heap.size, 0, none⟩) 1 1] 115)) (some ⟨w.heap.size + 1, 0, none⟩) 1 [tabA] := by
  refine ⟨rfl, by decide, fun _ => ⟨_, rfl, fun j p hj => ?_⟩⟩
  obtain ⟨h1, rfl⟩ := List.getElem?_eq_some_iff.1 hj
  obtain rfl : j = 0 := by simp at h1; omega
  have hb := reads_block (w := w.alloc (.cells #[.int .u8 7] 5)) (k := .u8) (ys := [7]) (t := 5) (heap_alloc_new w _) (by simp)
  have hC := Kd.C_below (reads_C hb) (below_alloc (Below.refl _ _) (.cells #[.string ⟨#[97, 98, 99, 100]⟩, .slice (some ⟨w.heap.size, 0, none⟩) 1 1] 115))
  refine ⟨_, rfl, k115_mk _ tabA (A1 := some ⟨w.heap.size, 0, none⟩) (c1 := 1) (by decide) hC, fun i u hu => ?_⟩
  have hi := heap_alloc_new (w.alloc (.cells #[.int .u8 7] 5)) (.cells #[.string ⟨#[97, 98, 99, 100]⟩, .slice (some ⟨w.heap.size, 0, none⟩) 1 1] 115)
  have hs : (w.alloc (.cells #[.int .u8 7] 5)).heap.size = w.heap.size + 1 := by simp
  rw [hs] at hi
  rw [show 0 * k115.sz + i = i by omega, Go.Addr.add_lit, Nat.zero_add]
  simp only [World.cell?, hi]
  have : i < 2 := (List.getElem?_eq_some_iff.1 hu).1
  rcases (show i = 0 ∨ i = 1 by omega) with rfl | rfl <;> exact hu

set_option maxHeartbeats 1000000 in
set_option maxRecDepth 100000 in
theorem foundrylaw05_awake.calls (r : Bool) (w : World) (h : foundrylaw05_awake.f = some r) :
    Calls Try.prog 33 #[] w fun e w' => e = .returned (.bool r) ∧ Below w.heap.size w w' := by
  obtain rfl := Option.some.inj h
  have HP := Aside0.mk (sfnt_Pack.calls (some ⟨w.heap.size + 1, 0, none⟩) 1 [tabA] outA 0 _ (C_A w) (by decide) pack_A)
  have HB := Aside0.mk (below_alloc (below_alloc (Below.refl w.heap.size w) (.cells #[.int .u8 7] 5)) (.cells #[.string ⟨#[97, 98, 99, 100]⟩, .slice (some ⟨w.heap.size, 0, none⟩) 1 1] 115))
  obtain ⟨ks, hks⟩ := (sum_ev [7] (by decide)).rounds
  rw [sum_A] at hks
  have hol : outA.length = 32 := rfl
  have HKS := Aside0.mk hks
  clear hks
  go_enter Try.func33, Try.ntmps33
  go_wp2_with (first
    | (go_at_call 36; refine HP.out.mono ?_; rintro e w1 ⟨v, rfl, hR, hb⟩; obtain ⟨A, c, rfl, -, -⟩ := Kd.R_reads hR; have HB1 := Aside0.mk (below_then HB.out HB.out.size hb); clear hb hR HP)
    | (go_at_call 34; refine (sfnt_Sum.calls ks (some ⟨_, 0, none⟩) 1 [7] 117440512 _ (reads_C (reads_block (k := .u8) (ys := [7]) (t := 5) (heap_alloc_new _ _) (by simp))) (by decide) HKS.out).mono ?_; rintro e w' ⟨rfl, ⟨nd, rfl⟩⟩))
  go_ret
  exact ⟨rfl, pw_below_drewN (below_alloc HB1.out _) _⟩
end Go.Proofs.Ytmppdgjnibamlab.Pag
