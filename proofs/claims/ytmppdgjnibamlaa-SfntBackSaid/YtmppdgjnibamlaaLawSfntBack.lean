/- The row of the law SfntBack: for every input the law returns true. No condition. -/
import Derived.Test.YtmppdgjnibamlaaRows
import Derived.Test.YtmppdgjnibamlaaPureSfntBack
import Derived.Test.YtmppdgjnibamlaaOpn
import Derived.WalkKit
import Derived.ProofKit
import Derived.OpenShut
import Derived.ShutString
import Derived.ChangeOld
import Derived.Below
import Derived.SizedLaws
import Derived.Lib.SmallJoins
namespace Go.Proofs.Ytmppdgjnibamlaa.sfntBack
open Go.ChangeShapes Go.WideShapes Go.ChangeAt Go.RowKit Go.Proofs.YtmppdgjnibamlaaW Go.Proofs.YtmppdgjnibamlaaW.PrintWords Go.Proofs.Ytmppdgjnibamlaa.Opn Go.Proofs.Ytmppdgjnibamlaa.PSf
open Go.ChangeMaps (open_string shut_string)
set_option linter.unusedVariables false
theorem own : ownKnob Try.prog.godebug = none := by kernel_rfl
theorem laidOut : laidOutB Try.prog = true := by kernel_rfl
set_option maxRecDepth 100000 in
set_option maxHeartbeats 1000000 in
theorem lifted (os : Os) (started : os.Started) (H : Type) (enc : TypeId × Value → H) :
    ReturnsInHanded {} Try.checked os 10 .any (Rows.sfntBackSpec.pre6 enc Try.prog Try.f10 Rows.sfntBackRow.domain false) (Rows.sfntBackSpec.post enc Try.prog Try.f10 false true false false) := by
  refine returnsInHanded_of_change_sized (C := Try.checked) own started (by kernel_rfl) Try.func10
    (ChangeSpec.witness6 (enc := enc) (C := Try.checked) false ⟨#[], #[.slice none 0 0], []⟩ 8 (by kernel_rfl) (by kernel_rfl) (by kernel_rfl) (by kernel_rfl)) ?_
  intro W base args ds gs before hval0 hW hcnd hsz0 _
  have hsz : (DataW.weightsEach Try.prog (Try.f10.params.toList ++ Rows.sfntBackSpec.plain.varTypes Try.prog) (ds ++ gs)).all (· ≤ reachBytes) = true := hsz0
  have hval : ∀ (j : Nat) t v, Try.f10.params[j]? = some t → args[j]? = some v → Value.okWide Try.prog W .any base t v := hval0
  have hW' := hW
  obtain ⟨p, q, hA0, hV, rfl, hfz, hnd⟩ := hW
  have hA : DataW.TrodAll enc Try.prog W 0 (fun _ => true) true Try.f10.params.toList args.toList ds p := hA0
  rw [Try.params10] at hA hval hsz
  obtain ⟨v0, vs0, d0, ds0, p0, q0, hargs, rfl, rfl, h0, r0⟩ := trodAll_cons hA
  obtain ⟨rfl, rfl, rfl⟩ := trodAll_nil r0
  obtain rfl : args = #[v0] := by cases args; simp_all
  obtain ⟨rfl, rfl⟩ := trodVars_none hV
  have k0_ := h0
  have lt0 : ∀ x ∈ p0, x.block < W.heap.size := by obtain ⟨m, hm⟩ := k0_; exact DataW.trod_lt m _ _ _ hm
  have z0 : ∀ n ∈ DataW.weights Try.prog 55 d0, n ≤ 140737488351232 := fun n hn => by
    have h := List.all_eq_true.1 hsz _ (DataW.weights_mem_each (j := 0) rfl rfl n hn)
    exact of_decide_eq_true h
  obtain ⟨fuel0, hf0⟩ := h0
  obtain ⟨y0, hK0, w0⟩ := (opens_slice Try.underlying55 (by kernel_rfl) (B := 40) (by kernel_rfl) (opens_iso (f := fun x : S72 => (x.f0, x.f1)) (fun x => (⟨x.1, x.2⟩ : S72)) (fun _ => rfl) (opens_struct2 Try.underlying72 (by kernel_rfl) rfl rfl (by kernel_rfl) (by kernel_rfl) (opens_string Try.underlying9) (opens_slice Try.underlying25 (by kernel_rfl) (B := 1) (by kernel_rfl) (opens_int Try.underlying5))))) fuel0 _ _ hf0 z0
  obtain ⟨a0, len0, cap0, rfl⟩ := okWide_slice Try.underlying55 (hval 0 55 v0 rfl rfl)
  obtain ⟨A0, c0, hcs0, l0, g0⟩ := hK0
  obtain ⟨rfl, rfl, rfl⟩ : A0 = a0 ∧ y0.length = len0 ∧ c0 = cap0 := by simp [Value.cells] at hcs0; exact ⟨hcs0.1.symm, hcs0.2.1.symm, hcs0.2.2.symm⟩
  clear hA0 hval0 hsz0 hsz
  obtain ⟨k, hk⟩ := Pure.SfntBack y0 w0
  refine (foundrylaw05_SfntBack.calls k A0 c0 y0 true W g0 l0 hk).mono fun e W' hh => ?_
  obtain ⟨he, bel⟩ : e = .returned (.bool true) ∧ Below W.heap.size W W' := ⟨hh.1, by first | exact hh.2 | exact hh.2.below⟩
  subst he
  exact ⟨_, rfl, _, _, _, [], _, [], hW', trodAll_mk1 (shut_bool Try.underlying4 _), (trodAll_cons_mk (Below.trod laidOut (by kernel_rfl) (of_decide_eq_true (by kernel_rfl)) k0_ bel lt0) trodAll_mk0), rfl, bel.frame _, fun h => by cases h⟩
theorem over : Rows.sfntBackRow.holds Try.pinned (OpenSpec.ofChange Rows.sfntBackSpec) :=
  OpenClaim.holds_of_wide 10 Try.f10 rfl rfl rfl rfl rfl rfl rfl ⟨rfl, rfl, rfl, rfl, rfl⟩ rfl rfl rfl rfl rfl (by kernel_rfl) Try.func10 (by kernel_rfl)
    (of_decide_eq_true (by kernel_rfl)) (by unfold Func.isWrapper; first | (rw [if_pos (by decide +kernel)]; kernel_rfl) | (rw [if_neg (by decide +kernel)]; exact ⟨rfl, rfl⟩))
    (fun os started H enc _ => lifted os started H enc)
theorem proved : Rows.SfntBackSaid := over
#print axioms proved
end Go.Proofs.Ytmppdgjnibamlaa.sfntBack
namespace Go.Proofs.Ytmppdgjnibamlaa
/-- The row, under a short name, for the claim. -/
theorem sfntBack_holds : Rows.SfntBackSaid := sfntBack.proved
end Go.Proofs.Ytmppdgjnibamlaa
