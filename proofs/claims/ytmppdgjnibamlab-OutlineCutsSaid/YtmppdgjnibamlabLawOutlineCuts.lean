/- The row of the law OutlineCuts: for every input the law returns true. No condition. -/
import Derived.Test.YtmppdgjnibamlabRows
import Derived.Test.YtmppdgjnibamlabPureOutlineCuts
import Derived.Test.YtmppdgjnibamlabOpn
import Derived.WalkKit
import Derived.ProofKit
import Derived.OpenShut
import Derived.ShutString
import Derived.ChangeOld
import Derived.Below
import Derived.SizedLaws
import Derived.Lib.SmallJoins
namespace Go.Proofs.Ytmppdgjnibamlab.outlineCuts
open Go.ChangeShapes Go.WideShapes Go.ChangeAt Go.RowKit Go.Proofs.YtmppdgjnibamlabW Go.Proofs.YtmppdgjnibamlabW.PrintWords Go.Proofs.Ytmppdgjnibamlab.Opn Go.Proofs.Ytmppdgjnibamlab.POl
open Go.ChangeMaps (open_string shut_string)
set_option linter.unusedVariables false
theorem own : ownKnob Try.prog.godebug = none := by kernel_rfl
theorem laidOut : laidOutB Try.prog = true := by kernel_rfl
set_option maxRecDepth 100000 in
set_option maxHeartbeats 1000000 in
theorem lifted (os : Os) (started : os.Started) (H : Type) (enc : TypeId × Value → H) :
    ReturnsInHanded {} Try.checked os 6 .any (Rows.outlineCutsSpec.pre6 enc Try.prog Try.f6 Rows.outlineCutsRow.domain false) (Rows.outlineCutsSpec.post enc Try.prog Try.f6 false true false false) := by
  refine returnsInHanded_of_change_sized (C := Try.checked) own started (by kernel_rfl) Try.func6
    (ChangeSpec.witness6 (enc := enc) (C := Try.checked) false ⟨#[], #[.agg #[.slice none 0 0, .slice none 0 0], .int .u16 0, .int .u8 0], []⟩ 8 (by kernel_rfl) (by kernel_rfl) (by kernel_rfl) (by kernel_rfl)) ?_
  intro W base args ds gs before hval0 hW hcnd hsz0 _
  have hsz : (DataW.weightsEach Try.prog (Try.f6.params.toList ++ Rows.outlineCutsSpec.plain.varTypes Try.prog) (ds ++ gs)).all (· ≤ reachBytes) = true := hsz0
  have hval : ∀ (j : Nat) t v, Try.f6.params[j]? = some t → args[j]? = some v → Value.okWide Try.prog W .any base t v := hval0
  have hW' := hW
  obtain ⟨p, q, hA0, hV, rfl, hfz, hnd⟩ := hW
  have hA : DataW.TrodAll enc Try.prog W 0 (fun _ => true) true Try.f6.params.toList args.toList ds p := hA0
  rw [Try.params6] at hA hval hsz
  obtain ⟨v0, vs0, d0, ds0, p0, q0, hargs, rfl, rfl, h0, r0⟩ := trodAll_cons hA
  obtain ⟨v1, vs1, d1, ds1, p1, q1, rfl, rfl, rfl, h1, r1⟩ := trodAll_cons r0
  obtain ⟨v2, vs2, d2, ds2, p2, q2, rfl, rfl, rfl, h2, r2⟩ := trodAll_cons r1
  obtain ⟨rfl, rfl, rfl⟩ := trodAll_nil r2
  obtain rfl : args = #[v0, v1, v2] := by cases args; simp_all
  obtain ⟨rfl, rfl⟩ := trodVars_none hV
  have k0_ := h0
  have lt0 : ∀ x ∈ p0, x.block < W.heap.size := by obtain ⟨m, hm⟩ := k0_; exact DataW.trod_lt m _ _ _ hm
  have z0 : ∀ n ∈ DataW.weights Try.prog 25 d0, n ≤ 140737488351232 := fun n hn => by
    have h := List.all_eq_true.1 hsz _ (DataW.weights_mem_each (j := 0) rfl rfl n hn)
    exact of_decide_eq_true h
  obtain ⟨fuel0, hf0⟩ := h0
  obtain ⟨cs0, rfl, hcz0⟩ := okWide_struct Try.underlying25 (hval 0 25 v0 rfl rfl)
  obtain ⟨y0, hK0, w0⟩ := (opens_struct2 Try.underlying25 (by kernel_rfl) rfl rfl (by kernel_rfl) (by kernel_rfl) (opens_slice Try.underlying22 (by kernel_rfl) (B := 24) (by kernel_rfl) (opens_slice Try.underlying37 (by kernel_rfl) (B := 24) (by kernel_rfl) (opens_iso (f := fun x : S40 => (x.f0, x.f1, x.f2)) (fun x => (⟨x.1, x.2.1, x.2.2⟩ : S40)) (fun _ => rfl) (opens_struct3 Try.underlying40 (by kernel_rfl) rfl rfl rfl (by kernel_rfl) (by kernel_rfl) (by kernel_rfl) (opens_int Try.underlying3) (opens_int Try.underlying3) (opens_bool Try.underlying4))))) (opens_slice Try.underlying23 (by kernel_rfl) (B := 24) (by kernel_rfl) (opens_iso (f := fun x : S82 => (x.f0, x.f1, x.f2)) (fun x => (⟨x.1, x.2.1, x.2.2⟩ : S82)) (fun _ => rfl) (opens_struct3 Try.underlying82 (by kernel_rfl) rfl rfl rfl (by kernel_rfl) (by kernel_rfl) (by kernel_rfl) (opens_int Try.underlying3) (opens_int Try.underlying3) (opens_int Try.underlying3))))) fuel0 _ _ hf0 z0
  obtain ⟨_, _, hcs0, ⟨A0_0, c0_0, rfl, l0_0, g0_0⟩, ⟨A0_1, c0_1, rfl, l0_1, g0_1⟩⟩ := hK0
  obtain rfl : cs0 = #[.slice A0_0 y0.1.length c0_0, .slice A0_1 y0.2.length c0_1] := by cases cs0; simpa [Value.cells] using hcs0
  obtain ⟨y1, rfl, rfl, rfl, w1⟩ := open_int Try.underlying42 (hval 1 42 v1 rfl rfl) h1
  obtain ⟨y2, rfl, rfl, rfl, w2⟩ := open_int Try.underlying5 (hval 2 5 v2 rfl rfl) h2
  clear hA0 hval0 hsz0 hsz
  obtain ⟨k, hk⟩ := Pure.OutlineCuts y0.1 y0.2 y1 y2 w0 w1 w2
  refine (foundrylaw12_OutlineCuts.calls k A0_0 c0_0 y0.1 A0_1 c0_1 y0.2 y1 y2 true W g0_0 l0_0 g0_1 l0_1 hk).mono fun e W' hh => ?_
  obtain ⟨he, bel⟩ : e = .returned (.bool true) ∧ Below W.heap.size W W' := ⟨hh.1, by first | exact hh.2 | exact hh.2.below⟩
  subst he
  exact ⟨_, rfl, _, _, _, [], _, [], hW', trodAll_mk1 (shut_bool Try.underlying4 _), (trodAll_cons_mk (Below.trod laidOut (by kernel_rfl) (of_decide_eq_true (by kernel_rfl)) k0_ bel lt0) (trodAll_cons_mk (shut_int Try.underlying42 w1) (trodAll_cons_mk (shut_int Try.underlying5 w2) trodAll_mk0))), rfl, bel.frame _, fun h => by cases h⟩
theorem over : Rows.outlineCutsRow.holds Try.pinned (OpenSpec.ofChange Rows.outlineCutsSpec) :=
  OpenClaim.holds_of_wide 6 Try.f6 rfl rfl rfl rfl rfl rfl rfl ⟨rfl, rfl, rfl, rfl, rfl⟩ rfl rfl rfl rfl rfl (by kernel_rfl) Try.func6 (by kernel_rfl)
    (of_decide_eq_true (by kernel_rfl)) (by unfold Func.isWrapper; first | (rw [if_pos (by decide +kernel)]; kernel_rfl) | (rw [if_neg (by decide +kernel)]; exact ⟨rfl, rfl⟩))
    (fun os started H enc _ => lifted os started H enc)
theorem proved : Rows.OutlineCutsSaid := over
#print axioms proved
end Go.Proofs.Ytmppdgjnibamlab.outlineCuts
namespace Go.Proofs.Ytmppdgjnibamlab
/-- The row, under a short name, for the claim. -/
theorem outlineCuts_holds : Rows.OutlineCutsSaid := outlineCuts.proved
end Go.Proofs.Ytmppdgjnibamlab
