/- OutlineBack: plain. -/
import Derived.Test.YtmppdgjnibamlabPOlx13
import Derived.Test.YtmppdgjnibamlabOlV
namespace Go.Proofs.Ytmppdgjnibamlab.Pure
open Go.RowKit Go.Proofs.Ytmppdgjnibamlab.POl Go.Proofs.YtmppdgjnibamlabW.PrintWords Go.Proofs.YtmppdgjnibamlabW.PrintLast Go.Proofs.Ytmppdgjnibamlab.Pag
set_option linter.unusedVariables false
set_option linter.unusedSimpArgs false

theorem far_ev (cs : List (List Pt)) (ps : List Pr) (hc : ∀ c ∈ cs, c.length ≤ 1000000000000) (hf : fmO cs ps = true) (l : List Pt) (hl : l.length ≤ 1000000) (hin : ∀ p ∈ l, -32768 ≤ p.f0 ∧ p.f0 ≤ 32767 ∧ -32768 ≤ p.f1 ∧ p.f1 ≤ 32767) :
    ∀ d i : Nat, i + 1 + d = l.length → ∀ h : i < l.length, (stp l[i].f0 l[i].f1 (l.drop (i + 1))).all okS = false → Ev (fun k => foundrylaw12_OutlineBack.l0 k l ((i + 1 : Nat) : Int) cs ps) true := by
  intro d
  have hfo : Ev (fun k => (outline_Formed.f k cs ps).bind fun t => some t) true := by
    have := formed_ev cs ps hc
    rw [hf] at this
    exact Ev.bind this (Ev.now _)
  induction d with
  | zero =>
    intro i hi h hb
    rw [List.drop_of_length_le (by omega), stp] at hb
    cases hb
  | succ d ih =>
    intro i hi h hb
    have hlt : i + 1 < l.length := by omega
    rw [List.drop_eq_getElem_cons hlt, stp, List.all_cons, Bool.and_eq_false_iff] at hb
    have e1 := rdP h
    have e2 := rdP hlt
    obtain ⟨a0, a1, a2, a3⟩ := hin l[i] (List.getElem_mem h)
    obtain ⟨b0, b1, b2, b3⟩ := hin l[i + 1] (List.getElem_mem hlt)
    have hn := ih (i + 1) (by omega) hlt
    have W0 := Aside0.mk (show wrap64 (((i + 1 : Nat) : Int) - 1) = (i : Int) by unfold wrap64; omega)
    have W1 := Aside0.mk (show wrap64 (l[i + 1].f0 - l[i].f0) = l[i + 1].f0 - l[i].f0 by unfold wrap64; omega)
    have W2 := Aside0.mk (show wrap64 (l[i + 1].f1 - l[i].f1) = l[i + 1].f1 - l[i].f1 by unfold wrap64; omega)
    have st : ∀ k, foundrylaw12_OutlineBack.l0 (k + 1) l ((i + 1 : Nat) : Int) cs ps = if l[i + 1].f0 - l[i].f0 < -32768 then (outline_Formed.f k cs ps).bind fun t => some t else if l[i + 1].f0 - l[i].f0 > 32767 then (outline_Formed.f k cs ps).bind fun t => some t else
        if l[i + 1].f1 - l[i].f1 < -32768 then (outline_Formed.f k cs ps).bind fun t => some t else if l[i + 1].f1 - l[i].f1 > 32767 then (outline_Formed.f k cs ps).bind fun t => some t else foundrylaw12_OutlineBack.l0 k l ((i + 1 + 1 : Nat) : Int) cs ps := fun k => by
      rw [foundrylaw12_OutlineBack.l0, if_pos (by omega), if_pos (by omega), W0.out, if_pos (by omega), if_pos (by omega), e1, e2, W1.out, W2.out, wnat (by omega)]
    generalize l[i] = p at st hb
    generalize hq : l[i + 1] = q at st hb hn
    refine Ev.step st ?_
    by_cases c1 : q.f0 - p.f0 < -32768
    · simp only [if_pos c1]; exact hfo
    · by_cases c2 : q.f0 - p.f0 > 32767
      · simp only [if_neg c1, if_pos c2]; exact hfo
      · by_cases c3 : q.f1 - p.f1 < -32768
        · simp only [if_neg c1, if_neg c2, if_pos c3]; exact hfo
        · by_cases c4 : q.f1 - p.f1 > 32767
          · simp only [if_neg c1, if_neg c2, if_neg c3, if_pos c4]; exact hfo
          · simp only [if_neg c1, if_neg c2, if_neg c3, if_neg c4]
            refine hn ?_
            rcases hb with hb | hb
            · have : okS (q.f0 - p.f0, q.f1 - p.f1, q.f2) = true := by
                simp only [okS, Bool.and_eq_true, inF_iff]; omega
              rw [this] at hb
              cases hb
            · exact hb
theorem OutlineBack (cs : List (List Pt)) (ps : List Pr) {QC : List Pt → Prop} {Q1 : Prop} (h : (cs.length * 24 ≤ 140737488351232 ∧ ∀ c ∈ cs, (c.length * 24 ≤ 140737488351232 ∧ QC c)) ∧ (ps.length * 24 ≤ 140737488351232 ∧ Q1)) : ∃ k : Nat, foundrylaw12_OutlineBack.f k cs ps = some true := by
  refine Ev.rounds (g := fun k => foundrylaw12_OutlineBack.f k cs ps) ?_
  unfold foundrylaw12_OutlineBack.f
  simp only [awake12, Option.bind_some, if_true]
  obtain ⟨r, hev, hr⟩ := few12 cs ps (by omega) (fun c hc => by have := (h.1.2 c hc).1; omega)
  refine Ev.bind hev ?_
  cases r with
  | false => exact Ev.step (fun k => by rw [foundrylaw12_OutlineBack.j0, if_pos (by decide), awake12]; rfl) (Ev.now _)
  | true =>
    have ht := hr rfl
    have hcl : ∀ c ∈ cs, c.length ≤ 1000000000000 := fun c hc => by have := totC_mem cs c hc; omega
    have hlen := totC_len cs
    refine Ev.step (fun k => by rw [foundrylaw12_OutlineBack.j0, if_neg (by decide), Write_f hcl, Option.bind_some]) ?_
    cases hf : fmO cs ps with
    | false =>
      have e : wrO cs ps = ([], 1) := by unfold wrO; rw [hf]; rfl
      rw [e]
      simp only [show ¬ ((1 : Int) = 4) by decide, show ¬ ((1 : Int) = 0) by decide, if_false, if_true]
      have := formed_ev cs ps hcl
      rw [hf] at this
      exact Ev.bind this (Ev.now _)
    | true =>
      have hfa := fmO_facts hf
      have back (w : List Int) (hw : wrO cs ps = (w, 0)) : Ev (fun k => if (wrO cs ps).2 = 4 then ((outline_Points.f k cs ps).bind fun t262 => (foundrylaw12_OutlineBack.l0 k t262 1 cs ps)) else (if (wrO cs ps).2 = 0 then ((outline_Read.f k (wrO cs ps).1).bind fun bt273 => (if bt273.2.2 = 0 then ((foundryref12_Same.f k cs ps bt273.1 bt273.2.1).bind fun t281 => (some t281)) else (some false))) else (if (wrO cs ps).2 = 1 then ((outline_Formed.f k cs ps).bind fun t282 => (some (!t282))) else (some false)))) true := by
        rw [hw]
        simp only [show ¬ ((0 : Int) = 4) by decide, if_false, if_true]
        have hrt := read_rt hw (rest := []) rfl
        rw [List.append_nil, if_pos rfl] at hrt
        refine Ev.bind hrt ?_
        simp only [if_true]
        exact Ev.bind (osame_ev cs ps (by omega) (fun c hc => by have := totC_mem cs c hc; omega) (by have := hfa.par; omega)) (Ev.now _)
      by_cases hp : 0 < ps.length
      · exact back (wrP ps) (by unfold wrO; rw [hf, if_pos rfl, if_pos hp])
      · by_cases ho : (stp 0 0 cs.flatten).all okS = true
        · exact back (wrC cs) (by unfold wrO; rw [hf, if_pos rfl, if_neg hp, if_pos ho])
        · have e : wrO cs ps = ([], 4) := by unfold wrO; rw [hf, if_pos rfl, if_neg hp, if_neg ho]
          rw [e]
          simp only [if_true]
          have hn := hfa.pts
          have hpt := pts_ev cs ps (by omega) (by omega)
          refine Ev.bind hpt ?_
          have ho' : (stp 0 0 cs.flatten).all okS = false := Bool.eq_false_iff.2 ho
          have hin := hfa.inn
          generalize cs.flatten = l at hn ho' hin
          match l, hn, ho', hin with
          | [], _, ho', _ => cases ho'
          | p :: r, hn, ho', hin =>
            obtain ⟨a0, a1, a2, a3⟩ := hin p (by simp)
            rw [stp, List.all_cons, Bool.and_eq_false_iff] at ho'
            rcases ho' with ho' | ho'
            · have : okS (p.f0 - 0, p.f1 - 0, p.f2) = true := by
                simp only [okS, Bool.and_eq_true, inF_iff]; omega
              rw [this] at ho'
              cases ho'
            · exact far_ev cs ps hcl hf (p :: r) (by omega) hin r.length 0 (by simp; omega) (by simp) ho'
end Go.Proofs.Ytmppdgjnibamlab.Pure
