/- SfntPacks: plain. -/
import Derived.Test.YtmppdgjnibamlabPSfx9
import Derived.Test.YtmppdgjnibamlabSfX
namespace Go.Proofs.Ytmppdgjnibamlab.Pure
open Go.RowKit Go.Proofs.Ytmppdgjnibamlab.PSf Go.Proofs.YtmppdgjnibamlabW.PrintWords Go.Proofs.YtmppdgjnibamlabW.PrintLast Go.Proofs.Ytmppdgjnibamlab.Pag
set_option linter.unusedVariables false
set_option linter.unusedSimpArgs false

theorem wfb_all {l : List Int} (h : ∀ x ∈ l, (Lit.int .u8 x).wf = true) : l.all byteB = true := by
  rw [List.all_eq_true]
  intro x hx
  have := h x hx
  simp [Lit.wf, IntKind.min, IntKind.max, IntKind.bits, IntKind.signed] at this
  simp [byteB]; omega
theorem tot_mem : ∀ (l : List S115) (t : S115), t ∈ l → t.f1.length ≤ tot l
  | [], t, h => by simp at h
  | x :: r, t, h => by
    rw [tot]
    rcases List.mem_cons.1 h with rfl | h
    · omega
    · have := tot_mem r t h
      omega
theorem tot_len : ∀ (l : List S115), 20 * l.length ≤ tot l
  | [] => Nat.le_refl _
  | x :: r => by
    have := tot_len r
    rw [tot, List.length_cons]; omega
theorem rfind_ev (l : List S115) (tag : ByteArray) (hl : l.length ≤ 1000000) (hb : ∀ t ∈ l, t.f1.length ≤ 1000000000) : Ev (fun k => foundryref05_Find.f k (l.map vc) tag) (findP tag l) := by
  unfold foundryref05_Find.f
  have h : ∀ d i : Nat, i + d = l.length → Ev (fun k => foundryref05_Find.l0 k (l.map vc) tag (i : Int)) (findP tag (l.drop i)) := by
    intro d
    induction d with
    | zero =>
      intro i hi
      rw [List.drop_of_length_le (by omega)]
      exact Ev.step (fun k => by rw [foundryref05_Find.l0, if_neg (by rw [List.length_map]; omega)]; rfl) (Ev.now _)
    | succ d ih =>
      intro i hi
      have hlt : i < l.length := by omega
      have e : rd_T123 (l.map vc) (i : Int) = vc l[i] := by simp [rd_T123, hlt]
      have hn := ih (i + 1) (by omega)
      have hbi := hb l[i] (List.getElem_mem hlt)
      rw [List.drop_eq_getElem_cons hlt, findP]
      by_cases he : l[i].f0.toList = tag.toList
      · rw [if_pos he]
        exact Ev.step (fun k => by rw [foundryref05_Find.l0, if_pos (by rw [List.length_map]; omega), if_pos (by omega), e, if_pos (show (vc l[i]).f0.toList = tag.toList from he), if_pos (by show ([] : List Int).length + l[i].f1.length < _; simp only [List.length_nil]; omega)]; rfl) (Ev.now _)
      · rw [if_neg he]
        exact Ev.step (fun k => by rw [foundryref05_Find.l0, if_pos (by rw [List.length_map]; omega), if_pos (by omega), e, if_neg (show ¬ ((vc l[i]).f0.toList = tag.toList) from he), wsucc (by omega)]) hn
  exact h l.length 0 (by omega)
theorem findP_small (tag : ByteArray) : ∀ (l : List S115), (∀ t ∈ l, t.f1.length ≤ 1000000000) → (findP tag l).1.length ≤ 1000000000
  | [], _ => by simp [findP]
  | t :: r, h => by
    rw [findP]
    split
    · exact h t (by simp)
    · exact findP_small tag r (fun t ht => h t (by simp [ht]))
theorem SfntPacks (l : List S115) (tag : ByteArray) (b : List Int) (h0 : l.length * 40 ≤ 140737488351232 ∧ ∀ x ∈ l, x.f0.size ≤ 140737488351232 ∧ (x.f1.length * 1 ≤ 140737488351232 ∧ ∀ y ∈ x.f1, (Lit.int .u8 y).wf = true)) (h1 : tag.size ≤ 140737488351232) (h2 : b.length * 1 ≤ 140737488351232 ∧ ∀ y ∈ b, (Lit.int .u8 y).wf = true) :
    ∃ k : Nat, foundrylaw05_SfntPacks.f k l tag b = some true := by
  refine Ev.rounds (g := fun k => foundrylaw05_SfntPacks.f k l tag b) ?_
  unfold foundrylaw05_SfntPacks.f
  simp only [show foundrylaw05_awake.f = some true from rfl, Option.bind_some, if_true]
  have yes : Ev (fun k => foundrylaw05_SfntPacks.j0 k l tag b true) true := Ev.step (fun k => by rw [foundrylaw05_SfntPacks.j0, if_pos rfl]; rfl) (Ev.now _)
  obtain ⟨r, hev, hr⟩ := few_ev l (by omega)
  refine Ev.bind hev ?_
  cases r with
  | false => exact Ev.congr (fun k => by rw [if_neg (by decide)]) yes
  | true =>
    refine Ev.congr (fun k => by rw [if_pos rfl]) ?_
    by_cases hb20 : (b.length : Int) > 20000
    · rw [decide_eq_true hb20]; exact yes
    rw [decide_eq_false hb20]
    have ht := hr rfl
    have hll := tot_len l
    have hbl : ∀ t ∈ l, t.f1.length ≤ 1000000000 := fun t h => by have := tot_mem l t h; omega
    have hf : fits l = true := by
      unfold fits
      rw [Bool.and_eq_true, decide_eq_true_eq, List.all_eq_true]
      exact ⟨by omega, fun t ht => decide_eq_true (h0.2 t ht).1⟩
    have hfF : fitsF l = true := by
      unfold fitsF
      rw [Bool.and_eq_true, decide_eq_true_eq, List.all_eq_true]
      exact ⟨by omega, fun t ht => decide_eq_true (by have := (h0.2 t ht).2.1; omega)⟩
    have hby : bytesT l := fun t ht => wfb_all (h0.2 t ht).2.2
    have hbb : b.all byteB = true := wfb_all h2.2
    have hp : sfnt_Pack.f l = some (packP l) := pack_eq hf
    have hfo : sfnt_Formed.f l = some (fm l) := by unfold sfnt_Formed.f; rw [if_pos hf]
    have hfi : sfnt_Find.f l tag = some (findP tag l) := by unfold sfnt_Find.f; rw [if_pos hfF]
    have hpl := plain_ev l (by omega)
    have hfm := rform_ev (l.map vc) (fun t ht => by
      obtain ⟨u, hu, rfl⟩ := List.mem_map.1 ht
      have := (h0.2 u hu).1
      show u.f0.size ≤ _
      omega)
    rw [cv_vc] at hfm
    have hpk : Ev (fun k => foundryref05_Pack.f k (l.map vc)) (packP l) := by
      unfold foundryref05_Pack.f
      refine Ev.bind hfm ?_
      unfold packP
      cases hm : fm l with
      | false => simp only [Bool.false_eq_true, if_false]; exact Ev.now _
      | true =>
        have e : foundryref05_file.f (l.map vc) = some (lay (sortT l)) := by
          unfold foundryref05_file.f
          rw [cv_vc, if_pos ⟨hm, by
            rw [List.all_eq_true]
            intro t ht
            obtain ⟨u, hu, rfl⟩ := List.mem_map.1 ht
            exact hby u hu⟩]
        simp only [if_true]
        refine Ev.congr (fun k => by rw [e, Option.bind_some]) ?_
        by_cases hq : (lay (sortT l)).length ≤ 1048576
        · rw [if_pos hq]; exact Ev.congr (fun k => by rw [if_neg (by omega)]) (Ev.now _)
        · rw [if_neg hq]; exact Ev.congr (fun k => by rw [if_pos (by omega)]) (Ev.now _)
    have hsz : (packP l).1.length ≤ 1000000000 := by
      unfold packP
      split
      · split
        · simp only; omega
        · simp
      · simp
    refine Ev.step (fun k => by rw [foundrylaw05_SfntPacks.j0, if_neg (by decide), hp, Option.bind_some]) ?_
    refine Ev.bind hpl ?_
    refine Ev.bind hpk ?_
    refine Ev.congr (fun k => by rw [hfi, Option.bind_some]) ?_
    refine Ev.bind hpl ?_
    refine Ev.bind (rfind_ev l tag (by omega) hbl) ?_
    simp only [if_true]
    have hs1 := same_ev (x := (packP l).1) (y := (packP l).1) hsz
    rw [decide_eq_true rfl] at hs1
    refine Ev.bind hs1 ?_
    simp only [if_true]
    have hs2 := same_ev (x := (findP tag l).1) (y := (findP tag l).1) (findP_small tag l hbl)
    rw [decide_eq_true rfl] at hs2
    refine Ev.bind hs2 ?_
    simp only [if_true]
    refine Ev.bind (sum_ev b (by omega)) ?_
    refine Ev.bind (rsum_ev hbb (by omega)) ?_
    simp only [if_true]
    refine Ev.congr (fun k => by rw [hfo, Option.bind_some]) ?_
    refine Ev.bind hpl ?_
    refine Ev.bind hfm ?_
    simp only [beq_self_eq_true]
    exact Ev.now _
end Go.Proofs.Ytmppdgjnibamlab.Pure
