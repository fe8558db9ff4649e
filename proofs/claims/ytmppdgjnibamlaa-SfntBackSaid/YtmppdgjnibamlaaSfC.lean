/- slices.Clone at sfnt.Table. No condition but its own premises. -/
import Derived.Test.YtmppdgjnibamlaaSfS
namespace Go.Proofs.Ytmppdgjnibamlaa.Pag
open Go.Shelf Go.RowKit Go.Lib Go.Sort Go.Proofs.Ytmppdgjnibamlaa.PSf Go.Proofs.YtmppdgjnibamlaaW.PrintWords
set_option linter.unusedVariables false
set_option linter.unusedSimpArgs false

def kcl : Kd Cl where
  sz := 2
  E := []
  K := fun _ x cs => cs = encT x
  M := fun _ _ _ x cs => cs = encT x
  K_len := fun h => by rw [h]; rfl
  K_one := fun h => by rw [h]; intro u hu; simp [encT] at hu; rcases hu with rfl | rfl <;> rfl
  K_below := fun _ h => h
  K_of_M := fun h => h
  M_mono := fun _ h => h
  M_bound := fun h => h
  M_move := fun _ h => h
  M_lower := fun _ h => h
theorem choose_cl {w : World} {A : Option Addr} {l : List S72} (h : Kd.C k72 w A l.length l) (hp : 0 < l.length) :
    ∃ cl : List Cl, cl.map (·.t) = l ∧ (∀ x ∈ cl, x.t.f1.length ≤ x.c ∧ (Kd.int .u8).C w x.A x.t.f1.length x.t.f1) ∧ ReadsRow (fun x cs => cs = encT x) 2 w A l.length cl ∧ ∃ ad, A = some ad := by
  obtain ⟨ad, rfl, hc⟩ := h.2.2 hp
  have h1 : ∀ j : Fin l.length, ∃ y : Option Addr × Nat, (l[j]).f1.length ≤ y.2 ∧ (Kd.int .u8).C w y.1 (l[j]).f1.length (l[j]).f1 ∧ ∀ i u, (encT ⟨l[j], y.1, y.2⟩)[i]? = some u → w.cell? (ad.add (j.val * 2 + i)) = some u := by
    intro j
    obtain ⟨c, hcl, hK, hcell⟩ := hc j.val l[j] (by simp)
    obtain ⟨A1, c1, rfl, hle, hC⟩ := k72_open hK
    exact ⟨(A1, c1), hle, hC, hcell⟩
  obtain ⟨f, hf⟩ := Classical.axiomOfChoice h1
  refine ⟨List.ofFn fun j => ⟨l[j], (f j).1, (f j).2⟩, ?_, ?_, ⟨by simp, h.2.1, fun _ => ⟨ad, rfl, fun j p hj => ?_⟩⟩, ad, rfl⟩
  · apply List.ext_getElem (by simp)
    intro i h1 h2
    simp
  · intro x hx
    obtain ⟨j, rfl⟩ := (List.mem_ofFn).1 hx
    exact ⟨(hf j).1, (hf j).2.1⟩
  · obtain ⟨hlt, rfl⟩ := List.getElem?_eq_some_iff.1 hj
    simp only [List.length_ofFn] at hlt
    simp only [List.getElem_ofFn]
    exact ⟨_, rfl, rfl, fun i u hu => (hf ⟨j, hlt⟩).2.2 i u hu⟩
theorem cells_of_row {w w1 : World} {v : Value} {cl : List Cl} (hp : 0 < cl.length) (h : kcl.R 72 w1 w.heap.size (fun _ => True) v cl) :
    ∃ g cap, v = .slice (some ⟨g, 0, none⟩) cl.length cap ∧ w.heap.size ≤ g ∧ g < w1.heap.size ∧ HoldsK encT 2 w1 g 0 cl.toArray := by
  obtain ⟨-, inner, ⟨hil, hown⟩, hr1, hr2⟩ := h
  rcases hown with ⟨_, h0⟩ | ⟨g, cap, cur, rfl, hb, hblk, hle, hm, hsz, htk⟩
  · omega
  · refine ⟨g, cap, rfl, hb, (Array.getElem?_eq_some_iff.1 hblk).1, fun j hj => ⟨?_, by simp [World.frozen?, hblk]⟩⟩
    have hj' : j < cl.length * 2 := by simpa using hj
    rw [get_flatK _ _ _ _ (by simpa using hj')]
    have hq : j / 2 < cl.length := by omega
    have hpq := hr2 (j / 2) _ (List.getElem?_eq_getElem hq)
    have e1 : cl.toArray[j / 2]! = cl[j / 2] := by simp [hq]
    rw [e1, ← (show _ = encT cl[j / 2] from hpq)]
    have hil' : inner.length = cl.length * 2 := hil
    have e2 : (List.take kcl.sz (List.drop (j / 2 * kcl.sz) inner))[j % 2]? = inner[j]? := by
      show (List.take 2 (List.drop (j / 2 * 2) inner))[j % 2]? = inner[j]?
      rw [List.getElem?_take, if_pos (by omega), List.getElem?_drop]
      congr 1; omega
    have hcs : cur.size = cap * 2 := hsz
    have htk' : cur.toList.take (cl.length * 2) = inner := htk
    have e3 : inner[j]? = cur[j]? := by
      rw [← htk', List.getElem?_take, if_pos hj']; simp
    rw [List.getElem!_eq_getElem?_getD, e2, e3]
    have hlt : j < cur.size := by omega
    simp [World.cell?, hblk, hlt]

set_option maxHeartbeats 1000000 in
set_option maxRecDepth 100000 in
theorem clone_calls (A0 : Option Addr) (c0 : Nat) (l0 : List S72) (w : World) (hr0 : Kd.C k72 w A0 l0.length l0) (hp : 0 < l0.length) (hl : l0.length ≤ 1000000) :
    Calls Try.prog 81 #[.slice A0 l0.length c0] w fun e w' => ∃ g cap, e = .returned (.slice (some ⟨g, 0, none⟩) l0.length cap) ∧ CellsT w w' g l0 ∧ Below w.heap.size w w' := by
  obtain ⟨cl, hcl, hcb, hrow, ad, rfl⟩ := choose_cl hr0 hp
  have hlen : cl.length = l0.length := by rw [← hcl]; simp
  have HL := Aside0.mk hl
  have HR := Aside0.mk hrow
  have HE : Aside0 (kcl.R 72 (w.alloc (.cells #[] 72)) w.heap.size (fun _ => True) (.slice (some ⟨w.heap.size, 0, none⟩) 0 0) ([] : List Cl)) := ⟨⟨fun _ _ => trivial, OwnRow.lit w w.heap.size (ps := ([] : List Cl)) (inner := []) (Reps.none _ _) (Nat.le_refl _) (by simp)⟩⟩
  have HF : Aside0 (∀ (W : World) (v : Value), kcl.R 72 W w.heap.size (fun _ => True) v ([] ++ cl) → ∃ g cap, v = .slice (some ⟨g, 0, none⟩) l0.length cap ∧ CellsT w W g l0) := ⟨fun W v h => by
    obtain ⟨g, cap, rfl, h1, h2, h3⟩ := cells_of_row (by simpa [hlen] using hp) h
    exact ⟨g, cap, by rw [List.nil_append, hlen], h1, h2, by omega, cl, hcl, hcb, h3⟩⟩
  have hq := fun (W : World) => Lib.run_eql_slice_nil W 55 72 (some ad) l0.length c0 0 0 Try.underlying55
  clear hr0 hrow hcb hl hp hcl
  go_enter Try.func81, Try.ntmps81
  go_wp2_with (at_builtin; refine Kd.R_append_rows kcl (Rr := fun x cs => cs = encT x) (w0 := w) w.heap.size rfl (.tmp 5) (.tmp 6) 55 72 _ 40 rfl Try.underlying55 info72 rfl (by decide) (by decide) _ [] cl (some ad) l0.length c0 (fun _ => True) (fun _ => False) rfl rfl HE.out (HR.out.imp_ ((Below.refl _ _).alloc (Nat.le_refl _) _) (fun _ _ h => h)) (fun _ _ h => h) (fun _ h => h.elim) (fun _ _ => trivial) ((Below.refl _ _).alloc (Nat.le_refl _) _) (by simp) (by have := HL.out; simp; omega) ?_; intro v1 w1 hR1 hB1 hg1 hat1; have HR1 := Aside0.mk hR1; have HB1 := Aside0.mk hB1; clear hR1 hB1 hg1 hat1)
  go_ret
  obtain ⟨g, cap, rfl, hC⟩ := HF.out _ _ HR1.out
  exact ⟨g, cap, rfl, hC, HB1.out⟩
end Go.Proofs.Ytmppdgjnibamlaa.Pag
