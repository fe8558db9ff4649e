/- What the laws of features share, plain: awake, few, SameInts. -/
import Derived.Test.YtmppdgjnibamlabPFex3
namespace Go.Proofs.Ytmppdgjnibamlab.Pure
open Go.RowKit Go.Proofs.Ytmppdgjnibamlab.PFe Go.Proofs.YtmppdgjnibamlabW.PrintWords Go.Proofs.Ytmppdgjnibamlab.Pag
set_option linter.unusedVariables false
set_option linter.unusedSimpArgs false

theorem sortU_20 : sortU [2, 0] = [0, 2] := by
  refine sorted_unique (m := [0, 2]) ?_ (List.pairwise_mergeSort leI_trans leI_total _) ?_
  · refine (List.mergeSort_perm _ _).trans ?_
    show List.Perm [2, 0] [0, 2]
    exact List.Perm.swap 0 2 []
  · simp [Pag.leI]
theorem awake22 : foundrylaw22_awake.f = some true := by
  have e : feats_Chosen.f (([(⟨(⟨#[108, 105, 103, 97]⟩ : ByteArray), (([2, 0] : List Int))⟩ : S102)] : List (S102))) ([] : List (S105)) ([] : List Int) (([(⟨#[108, 105, 103, 97]⟩ : ByteArray)] : List ByteArray)) = some [0, 2] := by
    unfold feats_Chosen.f
    rw [if_pos (by decide +kernel), show keysTo [(⟨(⟨#[108, 105, 103, 97]⟩ : ByteArray), [2, 0]⟩ : S102)] [] [] [(⟨#[108, 105, 103, 97]⟩ : ByteArray)] ([(⟨(⟨#[108, 105, 103, 97]⟩ : ByteArray), [2, 0]⟩ : S102)] : List S102).length = [2, 0] by decide +kernel, sortU_20]
  unfold foundrylaw22_awake.f
  rw [e]
  rfl

theorem few1_ev (l1 : List S105) (hl : l1.length ≤ 1000000000000000) (hs : ∀ s ∈ l1, s.f0.length ≤ 1000000000000000 ∧ s.f2.length ≤ 1000000000000000) : ∀ d i : Nat, i + d = l1.length → ∀ acc : Int, 0 ≤ acc → acc ≤ 10000000000000000 →
    ∃ b, Ev (fun k => foundryref22_Few.l1 k l1 acc (i : Int)) b ∧ (b = true → acc ≤ 300 ∧ ∀ s ∈ l1.drop i, s.f0.length ≤ 300 ∧ s.f2.length ≤ 300) := by
  intro d
  induction d with
  | zero =>
    intro i hi acc h0 h1
    refine ⟨_, Ev.step (fun k => by rw [foundryref22_Few.l1, if_neg (by omega)]) (Ev.now _), fun h => ⟨of_decide_eq_true h, ?_⟩⟩
    rw [List.drop_of_length_le (by omega)]; simp
  | succ d ih =>
    intro i hi acc h0 h1
    have hlt : i < l1.length := by omega
    by_cases ha : acc ≤ 300
    · have hb := hs _ (List.getElem_mem hlt)
      have w1 : wrap64 ((l1[i].f2.length : Int) + (l1[i].f0.length : Int)) = (l1[i].f2.length : Int) + (l1[i].f0.length : Int) := wrapOk _ (by omega) (by omega)
      have w2 : wrap64 (acc + ((l1[i].f2.length : Int) + (l1[i].f0.length : Int))) = acc + ((l1[i].f2.length : Int) + (l1[i].f0.length : Int)) := wrapOk _ (by omega) (by omega)
      have w3 : wrap64 ((i : Int) + 1) = ((i + 1 : Nat) : Int) := by rw [wrapOk _ (by omega) (by omega)]; omega
      obtain ⟨b, hev, hbt⟩ := ih (i + 1) (by omega) (acc + ((l1[i].f2.length : Int) + (l1[i].f0.length : Int))) (by omega) (by omega)
      refine ⟨b, Ev.step (fun k => by rw [foundryref22_Few.l1, if_pos (by omega), if_pos ha, if_pos (by omega), rd_getT105 hlt, w1, w2, w3]) hev, fun h => ?_⟩
      obtain ⟨g1, g2⟩ := hbt h
      refine ⟨ha, fun s hs => ?_⟩
      rw [List.drop_eq_getElem_cons hlt] at hs
      rcases List.mem_cons.1 hs with rfl | hs
      · exact ⟨by omega, by omega⟩
      · exact g2 s hs
    · exact ⟨_, Ev.step (fun k => by rw [foundryref22_Few.l1, if_pos (by omega), if_neg ha]) (Ev.now _), fun h => absurd (of_decide_eq_true h) ha⟩
theorem few0_ev (l0 : List S102) (l1 : List S105) (hl0 : l0.length ≤ 1000000000000000) (hs0 : ∀ s ∈ l0, s.f1.length ≤ 1000000000000000) (hl : l1.length ≤ 1000000000000000) (hs : ∀ s ∈ l1, s.f0.length ≤ 1000000000000000 ∧ s.f2.length ≤ 1000000000000000) : ∀ d i : Nat, i + d = l0.length → ∀ acc : Int, 0 ≤ acc → acc ≤ 10000000000000000 →
    ∃ b, Ev (fun k => foundryref22_Few.l0 k l0 l1 acc (i : Int)) b ∧ (b = true → acc ≤ 300 ∧ (∀ s ∈ l0.drop i, s.f1.length ≤ 300) ∧ ∀ s ∈ l1, s.f0.length ≤ 300 ∧ s.f2.length ≤ 300) := by
  intro d
  have hj : ∀ acc : Int, 0 ≤ acc → acc ≤ 10000000000000000 → ∃ b, Ev (fun k => foundryref22_Few.j1 k l1 acc) b ∧ (b = true → acc ≤ 300 ∧ ∀ s ∈ l1, s.f0.length ≤ 300 ∧ s.f2.length ≤ 300) := by
    intro acc h0 h1
    obtain ⟨b, hev, hb⟩ := few1_ev l1 hl hs l1.length 0 (by omega) acc h0 h1
    rw [List.drop_zero] at hb
    exact ⟨b, Ev.step (fun k => by rw [foundryref22_Few.j1]; rfl) hev, hb⟩
  induction d with
  | zero =>
    intro i hi acc h0 h1
    obtain ⟨b, hev, hb⟩ := hj acc h0 h1
    refine ⟨b, Ev.step (fun k => by rw [foundryref22_Few.l0, if_neg (by omega)]) hev, fun h => ⟨(hb h).1, ?_, (hb h).2⟩⟩
    rw [List.drop_of_length_le (by omega)]; simp
  | succ d ih =>
    intro i hi acc h0 h1
    have hlt : i < l0.length := by omega
    by_cases ha : acc ≤ 300
    · have hb := hs0 _ (List.getElem_mem hlt)
      have w2 : wrap64 (acc + (l0[i].f1.length : Int)) = acc + (l0[i].f1.length : Int) := wrapOk _ (by omega) (by omega)
      have w3 : wrap64 ((i : Int) + 1) = ((i + 1 : Nat) : Int) := by rw [wrapOk _ (by omega) (by omega)]; omega
      obtain ⟨b, hev, hbt⟩ := ih (i + 1) (by omega) (acc + (l0[i].f1.length : Int)) (by omega) (by omega)
      refine ⟨b, Ev.step (fun k => by rw [foundryref22_Few.l0, if_pos (by omega), if_pos ha, if_pos (by omega), rd_getT102 hlt, w2, w3]) hev, fun h => ?_⟩
      obtain ⟨g1, g2, g3⟩ := hbt h
      refine ⟨ha, fun s hs => ?_, g3⟩
      rw [List.drop_eq_getElem_cons hlt] at hs
      rcases List.mem_cons.1 hs with rfl | hs
      · omega
      · exact g2 s hs
    · obtain ⟨b, hev, hb⟩ := hj acc h0 h1
      exact ⟨b, Ev.step (fun k => by rw [foundryref22_Few.l0, if_pos (by omega), if_neg ha]) hev, fun h => absurd (hb h).1 ha⟩
/-- What the row tells of a set. -/
def wf64i (x : Int) : Prop := (Lit.int .i64 x).wf = true
def ListIn (l : List Int) : Prop := l.length * 8 ≤ 140737488351232 ∧ ∀ x ∈ l, (Lit.int .i64 x).wf = true
def FeatIn (x : S102) : Prop := x.f0.size ≤ 140737488351232 ∧ ListIn x.f1
def CondIn (x : S58) : Prop := (Lit.int .i64 x.f0).wf = true ∧ (Lit.int .i64 x.f1).wf = true ∧ (Lit.int .i64 x.f2).wf = true
def SwapIn (x : S105) : Prop := (x.f0.length * 24 ≤ 140737488351232 ∧ ∀ c ∈ x.f0, CondIn c) ∧ (Lit.int .i64 x.f1).wf = true ∧ ListIn x.f2
def SetIn (l0 : List S102) (l1 : List S105) : Prop := (l0.length * 40 ≤ 140737488351232 ∧ ∀ x ∈ l0, FeatIn x) ∧ (l1.length * 56 ≤ 140737488351232 ∧ ∀ x ∈ l1, SwapIn x)
theorem in64_of {x : Int} (h : (Lit.int .i64 x).wf = true) : in64 x = true := by
  simp [Lit.wf, IntKind.min, IntKind.max, IntKind.bits, IntKind.signed] at h
  simp [in64]; omega
theorem listOk_of {l : List Int} (h : ListIn l) (hl : l.length ≤ 300) : listOk l = true := by
  simp only [listOk, Bool.and_eq_true, decide_eq_true_eq, List.all_eq_true]
  exact ⟨by omega, fun x hx => in64_of (h.2 x hx)⟩
theorem few_ev (l0 : List S102) (l1 : List S105) (a b : Int) (l2 : List Int) (h : SetIn l0 l1) : ∃ r, Ev (fun k => foundrylaw22_few.f k l0 l1 a b l2) r ∧ (r = true → setOk l0 l1 = true ∧ l0.length ≤ 300 ∧ l1.length ≤ 300 ∧ l2.length ≤ 20) := by
  obtain ⟨⟨ha, hb⟩, hc, hd⟩ := h
  have hs0 : ∀ s ∈ l0, s.f1.length ≤ 1000000000000000 := fun s hs => by have := (hb s hs).2.1; omega
  have hs1 : ∀ s ∈ l1, s.f0.length ≤ 1000000000000000 ∧ s.f2.length ≤ 1000000000000000 := fun s hs => ⟨by have := (hd s hs).1.1; omega, by have := (hd s hs).2.2.1; omega⟩
  have w : wrap64 ((l0.length : Int) + (l1.length : Int)) = (l0.length : Int) + (l1.length : Int) := wrapOk _ (by omega) (by omega)
  obtain ⟨r, hev, hr⟩ := few0_ev l0 l1 (by omega) hs0 (by omega) hs1 l0.length 0 (by omega) ((l0.length : Int) + (l1.length : Int)) (by omega) (by omega)
  rw [List.drop_zero] at hr
  unfold foundrylaw22_few.f foundryref22_Few.f
  rw [w]
  cases r with
  | true =>
    obtain ⟨h1, h2, h3⟩ := hr rfl
    refine ⟨decide ((l2.length : Int) ≤ 20), Ev.bind hev (by simp only [if_true]; exact Ev.now _), fun h => ?_⟩
    have hl2 := of_decide_eq_true h
    refine ⟨?_, by omega, by omega, by omega⟩
    simp only [setOk, Bool.and_eq_true, decide_eq_true_eq, List.all_eq_true]
    exact ⟨⟨by omega, fun x hx => listOk_of (hb x hx).2 (h2 x hx)⟩, ⟨by omega, fun x hx => listOk_of (hd x hx).2.2 (h3 x hx).2⟩, fun x hx => by have := (h3 x hx).1; omega⟩
  | false => exact ⟨false, Ev.bind hev (by simp only [Bool.false_eq_true, if_false]; exact Ev.now _), fun h => by cases h⟩

theorem same_loop (l : List Int) (hl : l.length ≤ 1000000000000000) : ∀ d i : Nat, i + d = l.length → Ev (fun k => foundryref06_SameInts.l0 k l l (i : Int)) true := by
  intro d
  induction d with
  | zero => intro i hi; exact Ev.step (fun k => by rw [foundryref06_SameInts.l0, if_neg (by omega)]) (Ev.now _)
  | succ d ih =>
    intro i hi
    exact Ev.step (fun k => by rw [foundryref06_SameInts.l0, if_pos (by omega), if_pos (by omega), if_pos (by omega), if_pos rfl, wrapOk _ (by omega) (by omega), show ((i : Int) + 1) = ((i + 1 : Nat) : Int) by omega]) (ih (i + 1) (by omega))
theorem same_ints (l : List Int) (hl : l.length ≤ 1000000000000000) : Ev (fun k => foundryref06_SameInts.f k l l) true := by
  unfold foundryref06_SameInts.f
  simp only [if_true]
  exact same_loop l hl l.length 0 (by omega)
theorem mem_sortU (x : Int) (l : List Int) : x ∈ sortU l ↔ x ∈ l := by
  unfold sortU
  rw [(List.mergeSort_perm _ _).mem_iff, mem_dedupI]
theorem nodup_sortU (l : List Int) : (sortU l).Nodup := (List.mergeSort_perm _ _).nodup_iff.2 (nodup_dedupI l)
theorem sortU_strict (l : List Int) : (sortU l).Pairwise (· < ·) := by
  have h1 : (sortU l).Pairwise (fun a b => Pag.leI a b = true) := List.pairwise_mergeSort leI_trans leI_total _
  refine (h1.and (nodup_sortU l)).imp fun {a b} h => ?_
  have := h.1; have := h.2
  simp [Pag.leI] at *; omega
theorem sortU_len (l : List Int) : (sortU l).length ≤ l.length := by
  have hd : ∀ l : List Int, (dedupI l).length ≤ l.length := by
    intro l
    induction l with
    | nil => simp [dedupI]
    | cons x l ih => unfold dedupI; split <;> simp <;> omega
  unfold sortU
  rw [List.length_mergeSort]
  exact hd l
theorem strict_unique {l m : List Int} (h1 : l.Pairwise (· < ·)) (hm : ∀ x, x ∈ l ↔ x ∈ m) : l = sortU m := by
  have hn : l.Nodup := h1.imp fun {a b} h => by omega
  rw [← sortU_of hn hm]
  exact sorted_unique (List.mergeSort_perm _ _).symm (h1.imp fun {a b} h => by simp [Pag.leI]; omega) (List.pairwise_mergeSort leI_trans leI_total _)
theorem chosen_now {l0 : List S102} {l1 : List S105} (hs : setOk l0 l1 = true) (l2 : List Int) (l3 : List ByteArray) : feats_Chosen.f l0 l1 l2 l3 = some (sortU (keysTo l0 l1 l2 l3 l0.length)) := by unfold feats_Chosen.f; rw [if_pos hs]
theorem keys_bound {l0 : List S102} {l1 : List S105} (hs : setOk l0 l1 = true) (l2 : List Int) (l3 : List ByteArray) : (sortU (keysTo l0 l1 l2 l3 l0.length)).length ≤ 1000000000000 := by
  have h0 := (setOk_0 hs).1
  have h1 := keysTo_len hs (l2 := l2) (l3 := l3) l0.length
  have h2 := sortU_len (keysTo l0 l1 l2 l3 l0.length)
  have : l0.length * 1000000 ≤ 1000000 * 1000000 := Nat.mul_le_mul_right _ h0
  omega
end Go.Proofs.Ytmppdgjnibamlab.Pure
