/- The row of the law SfntPacks: for every input the law returns true. No condition. -/
import Derived.Test.YtmppdgjnibamlabRows
import Derived.Test.YtmppdgjnibamlabPureSfntPacks
import Derived.Test.YtmppdgjnibamlabOpn
import Derived.WalkKit
import Derived.ProofKit
import Derived.OpenShut
import Derived.ShutString
import Derived.ChangeOld
import Derived.Below
import Derived.SizedLaws
import Derived.Lib.SmallJoins
namespace Go.Proofs.Ytmppdgjnibamlab.sfntPacks
open Go.ChangeShapes Go.WideShapes Go.ChangeAt Go.RowKit Go.Proofs.YtmppdgjnibamlabW Go.Proofs.YtmppdgjnibamlabW.PrintWords Go.Proofs.Ytmppdgjnibamlab.Opn Go.Proofs.Ytmppdgjnibamlab.PSf
open Go.ChangeMaps (open_string shut_string)
set_option linter.unusedVariables false
theorem own : ownKnob Try.prog.godebug = none := by kernel_rfl
theorem laidOut : laidOutB Try.prog = true := by kernel_rfl
set_option maxRecDepth 100000 in
set_option maxHeartbeats 1000000 in
theorem lifted (os : Os) (started : os.Started) (H : Type) (enc : TypeId × Value → H) :
    ReturnsInHanded {} Try.checked os 11 .any (Rows.sfntPacksSpec.pre6 enc Try.prog Try.f11 Rows.sfntPacksRow.domain false) (Rows.sfntPacksSpec.post enc Try.prog Try.f11 false true false false) := by
  refine returnsInHanded_of_change_sized (C := Try.checked) own started (by kernel_rfl) Try.func11
    (ChangeSpec.witness6 (enc := enc) (C := Try.checked) false ⟨#[], #[.slice none 0 0, .string ByteArray.empty, .slice none 0 0], []⟩ 8 (by kernel_rfl) (by kernel_rfl) (by kernel_rfl) (by kernel_rfl)) ?_
  intro W base args ds gs before hval0 hW hcnd hsz0 _
  have hsz : (DataW.weightsEach Try.prog (Try.f11.params.toList ++ Rows.sfntPacksSpec.plain.varTypes Try.prog) (ds ++ gs)).all (· ≤ reachBytes) = true := hsz0
  have hval : ∀ (j : Nat) t v, Try.f11.params[j]? = some t → args[j]? = some v → Value.okWide Try.prog W .any base t v := hval0
  have hW' := hW
  obtain ⟨p, q, hA0, hV, rfl, hfz, hnd⟩ := hW
  have hA : DataW.TrodAll enc Try.prog W 0 (fun _ => true) true Try.f11.params.toList args.toList ds p := hA0
  rw [Try.params11] at hA hval hsz
  obtain ⟨v0, vs0, d0, ds0, p0, q0, hargs, rfl, rfl, h0, r0⟩ := trodAll_cons hA
  obtain ⟨v1, vs1, d1, ds1, p1, q1, rfl, rfl, rfl, h1, r1⟩ := trodAll_cons r0
  obtain ⟨v2, vs2, d2, ds2, p2, q2, rfl, rfl, rfl, h2, r2⟩ := trodAll_cons r1
  obtain ⟨rfl, rfl, rfl⟩ := trodAll_nil r2
  obtain rfl : args = #[v0, v1, v2] := by cases args; simp_all
  obtain ⟨rfl, rfl⟩ := trodVars_none hV
  have k0_ := h0
  have lt0 : ∀ x ∈ p0, x.block < W.heap.size := by obtain ⟨m, hm⟩ := k0_; exact DataW.trod_lt m _ _ _ hm
  have z0 : ∀ n ∈ DataW.weights Try.prog 62 d0, n ≤ 140737488351232 := fun n hn => by
    have h := List.all_eq_true.1 hsz _ (DataW.weights_mem_each (j := 0) rfl rfl n hn)
    exact of_decide_eq_true h
  obtain ⟨fuel0, hf0⟩ := h0
  obtain ⟨y0, hK0, w0⟩ := (opens_slice Try.underlying62 (by kernel_rfl) (B := 40) (by kernel_rfl) (opens_iso (f := fun x : S115 => (x.f0, x.f1)) (fun x => (⟨x.1, x.2⟩ : S115)) (fun _ => rfl) (opens_struct2 Try.underlying115 (by kernel_rfl) rfl rfl (by kernel_rfl) (by kernel_rfl) (opens_string Try.underlying9) (opens_slice Try.underlying26 (by kernel_rfl) (B := 1) (by kernel_rfl) (opens_int Try.underlying5))))) fuel0 _ _ hf0 z0
  obtain ⟨a0, len0, cap0, rfl⟩ := okWide_slice Try.underlying62 (hval 0 62 v0 rfl rfl)
  obtain ⟨A0, c0, hcs0, l0, g0⟩ := hK0
  obtain ⟨rfl, rfl, rfl⟩ : A0 = a0 ∧ y0.length = len0 ∧ c0 = cap0 := by simp [Value.cells] at hcs0; exact ⟨hcs0.1.symm, hcs0.2.1.symm, hcs0.2.2.symm⟩
  obtain ⟨y1, rfl, rfl, rfl, u1⟩ := open_string Try.underlying9 (hval 1 9 v1 rfl rfl) h1
  have w1 : y1.size ≤ 140737488351232 := by
    have z := sized_string hsz (j := 1) (t := 9) rfl rfl
    rw [Array.length_toList] at z
    exact z
  have k2_ := h2
  have lt2 : ∀ x ∈ p2, x.block < W.heap.size := by obtain ⟨m, hm⟩ := k2_; exact DataW.trod_lt m _ _ _ hm
  have z2 : ∀ n ∈ DataW.weights Try.prog 26 d2, n ≤ 140737488351232 := fun n hn => by
    have h := List.all_eq_true.1 hsz _ (DataW.weights_mem_each (j := 2) rfl rfl n hn)
    exact of_decide_eq_true h
  obtain ⟨fuel2, hf2⟩ := h2
  obtain ⟨y2, hK2, w2⟩ := (opens_slice Try.underlying26 (by kernel_rfl) (B := 1) (by kernel_rfl) (opens_int Try.underlying5)) fuel2 _ _ hf2 z2
  obtain ⟨a2, len2, cap2, rfl⟩ := okWide_slice Try.underlying26 (hval 2 26 v2 rfl rfl)
  obtain ⟨A2, c2, hcs2, l2, g2⟩ := hK2
  obtain ⟨rfl, rfl, rfl⟩ : A2 = a2 ∧ y2.length = len2 ∧ c2 = cap2 := by simp [Value.cells] at hcs2; exact ⟨hcs2.1.symm, hcs2.2.1.symm, hcs2.2.2.symm⟩
  clear hA0 hval0 hsz0 hsz
  obtain ⟨k, hk⟩ := Pure.SfntPacks y0 y1 y2 w0 w1 w2
  refine (foundrylaw05_SfntPacks.calls k A0 c0 y0 y1 A2 c2 y2 true W g0 l0 g2 l2 hk).mono fun e W' hh => ?_
  obtain ⟨he, bel⟩ : e = .returned (.bool true) ∧ Below W.heap.size W W' := ⟨hh.1, by first | exact hh.2 | exact hh.2.below⟩
  subst he
  exact ⟨_, rfl, _, _, _, [], _, [], hW', trodAll_mk1 (shut_bool Try.underlying4 _), (trodAll_cons_mk (Below.trod laidOut (by kernel_rfl) (of_decide_eq_true (by kernel_rfl)) k0_ bel lt0) (trodAll_cons_mk (shut_string Try.underlying9 u1) (trodAll_cons_mk (Below.trod laidOut (by kernel_rfl) (of_decide_eq_true (by kernel_rfl)) k2_ bel lt2) trodAll_mk0))), rfl, bel.frame _, fun h => by cases h⟩
theorem over : Rows.sfntPacksRow.holds Try.pinned (OpenSpec.ofChange Rows.sfntPacksSpec) :=
  OpenClaim.holds_of_wide 11 Try.f11 rfl rfl rfl rfl rfl rfl rfl ⟨rfl, rfl, rfl, rfl, rfl⟩ rfl rfl rfl rfl rfl (by kernel_rfl) Try.func11 (by kernel_rfl)
    (of_decide_eq_true (by kernel_rfl)) (by unfold Func.isWrapper; first | (rw [if_pos (by decide +kernel)]; kernel_rfl) | (rw [if_neg (by decide +kernel)]; exact ⟨rfl, rfl⟩))
    (fun os started H enc _ => lifted os started H enc)
theorem proved : Rows.SfntPacksSaid := over
#print axioms proved
end Go.Proofs.Ytmppdgjnibamlab.sfntPacks
namespace Go.Proofs.Ytmppdgjnibamlab
/-- The row, under a short name, for the claim. -/
theorem sfntPacks_holds : Rows.SfntPacksSaid := sfntPacks.proved
end Go.Proofs.Ytmppdgjnibamlab
