/- What is packed are bytes; a beginning that is read is read so whatever stands behind. -/
import Derived.Test.YtmppdgjnibamlaaPbZ
namespace Go.Proofs.Ytmppdgjnibamlaa.Pure
open Go.RowKit Go.Proofs.Ytmppdgjnibamlaa.PPb Go.Proofs.YtmppdgjnibamlaaW.PrintWords Go.Proofs.YtmppdgjnibamlaaW.PrintLast Go.Proofs.Ytmppdgjnibamlaa.Pag
set_option linter.unusedVariables false
set_option linter.unusedSimpArgs false

theorem flat_bytes (f : Int → List Int) (hf : ∀ x, (f x).all byteB = true) (xs : List Int) : (xs.flatMap f).all byteB = true := by
  induction xs with
  | nil => rfl
  | cons x xs ih => rw [List.flatMap_cons, List.all_append, hf, ih]; rfl
theorem mod_byte (x : Int) : byteB (x % 256) = true := by simp [byteB]; omega
theorem b1_bytes (x : Int) : (b1 x).all byteB = true := by simp [b1, mod_byte]
theorem b2_bytes (x : Int) : (b2 x).all byteB = true := by simp [b2, mod_byte]
theorem packsP_bytes (r : List Int) : (∀ x ∈ r, 0 ≤ x ∧ x ≤ 65535) → (packs wideOf 128 encP r).all byteB = true := by
  refine packs_ind (kd := wideOf) (L := 128) (by omega) (p := fun r => (∀ x ∈ r, 0 ≤ x ∧ x ≤ 65535) → (packs wideOf 128 encP r).all byteB = true) (fun _ => rfl) (fun r n h ih hx => ?_) r
  have h1 := h.one
  have h2 := h.len
  have h3 := h.long
  have hr := hx _ (rd_in (l := r) (j := 0) (by omega))
  rw [show ((0 : Nat) : Int) = 0 from rfl] at hr
  have hw := wide01 _ hr.1 hr.2
  rw [packs_step (by omega) h, List.all_append, ih (fun x hx' => hx x (List.mem_of_mem_drop hx')), Bool.and_true]
  unfold encP
  rw [List.all_cons, flat_bytes _ (fun x => by split <;> simp only [b1_bytes, b2_bytes]), Bool.and_true, List.length_take]
  simp [byteB]
  omega
theorem packP_bytes (l : List Int) (hr : risingB l = true) : (packP l).all byteB = true := by
  have hl2 : l.length ≤ 2000 := by simp only [risingB, Bool.and_eq_true, decide_eq_true_eq] at hr; exact hr.2
  unfold packP
  rw [List.all_append, packsP_bytes _ (steps_in hr), Bool.and_true]
  unfold hdrP
  split
  · simp [byteB]; omega
  · simp [byteB]; omega
theorem packP_len (l : List Int) : (packP l).length ≤ 3 * l.length + 2 := by
  unfold packP
  have h1 := packsP_len (stepsOf l)
  rw [stepsOf_len] at h1
  have h2 := hdrP_len l.length
  rw [List.length_append]; omega
theorem packC_bytes (r : List Int) (hin : r.all inC = true) : (packs kindOf 64 encC r).all byteB = true := by
  refine packs_ind (kd := kindOf) (L := 64) (by omega) (p := fun r => (packs kindOf 64 encC r).all byteB = true) rfl (fun r n h ih => ?_) r
  have h1 := h.one
  have h2 := h.len
  have h3 := h.long
  have hw := kind3 (rd r 0)
  rw [packs_step (by omega) h, List.all_append, ih, Bool.and_true]
  unfold encC
  rw [List.all_cons, flat_bytes _ (fun x => by split <;> (try split) <;> simp [b0, b1_bytes, b2_bytes]), Bool.and_true, List.length_take]
  simp [byteB]
  omega
end Go.Proofs.Ytmppdgjnibamlaa.Pure
