/- SfntTurned: plain. -/
import Derived.Test.YtmppdgjnibamlaaPSfx4
import Derived.Test.YtmppdgjnibamlaaSfV
namespace Go.Proofs.Ytmppdgjnibamlaa.Pure
open Go.RowKit Go.Proofs.Ytmppdgjnibamlaa.PSf Go.Proofs.YtmppdgjnibamlaaW.PrintWords Go.Proofs.Ytmppdgjnibamlaa.Pag
set_option linter.unusedVariables false
set_option linter.unusedSimpArgs false

theorem wrapOk (x : Int) (h0 : -9223372036854775808 ≤ x) (h1 : x ≤ 9223372036854775807) : wrap64 x = x := by unfold wrap64; omega
theorem wf_all {l : List Int} (h : ∀ x ∈ l, (Lit.int .u8 x).wf = true) : l.all byteB = true := by
  rw [List.all_eq_true]
  intro x hx
  have := h x hx
  simp [Lit.wf, IntKind.min, IntKind.max, IntKind.bits, IntKind.signed] at this
  simp [byteB]; omega
theorem packP_zero {l : List S72} {b : List Int} (h : packP l = (b, 0)) : fm l = true ∧ b = lay (sortT l) ∧ b.length % 4 = 0 ∧ b.length ≤ 1048576 := by
  unfold packP at h
  split at h
  · rename_i hm
    split at h
    · rename_i hl
      have e : lay (sortT l) = b := congrArg Prod.fst h
      subst e
      exact ⟨hm, rfl, lay_four (fun t ht => fm_ok hm t ((sortT_perm l).mem_iff.1 ht)), hl⟩
    · exact absurd (show (3 : Int) = 0 from congrArg Prod.snd h) (by decide)
  · exact absurd (show (1 : Int) = 0 from congrArg Prod.snd h) (by decide)
theorem odd_bad {b : List Int} (hb : b.all byteB = true) (h : b.length % 4 ≠ 0) : unpackP b = ([], 2) := by
  rcases unpackP_or hb with h1 | ⟨l, h1, h2, _⟩
  · exact h1
  · exact absurd (packP_zero h2).2.2.1 h
theorem wraps6 {B n L : Nat} {a1 : Int} (hn : n ≤ 32) (h : B = 12 + 16 * n + L) (hB : B ≤ 1048576) (h0 : 0 ≤ a1) (h1 : a1 ≤ 65535) :
    wrap64 ((B : Int) - 12) = (B : Int) - 12 ∧ wrap64 (16 * (n : Int)) = 16 * (n : Int) ∧ wrap64 ((B : Int) - 12 - 16 * (n : Int)) = (L : Int) ∧ wrap64 ((L : Int) + 1) = (L : Int) + 1 ∧ wrap64 a1 = a1 ∧ wrap64 (12 + 16 * (n : Int)) = 12 + 16 * (n : Int) :=
  ⟨wrapOk _ (by omega) (by omega), wrapOk _ (by omega) (by omega), (wrapOk _ (by omega) (by omega)).trans (by omega), wrapOk _ (by omega) (by omega), wrapOk _ (by omega) (by omega), wrapOk _ (by omega) (by omega)⟩
theorem tmod_at {a : Int} (L : Nat) (h : 0 ≤ a) : ∃ q : Nat, Aside0 (Int.tmod a ((L : Int) + 1) = (q : Int)) ∧ q ≤ L := by
  have h1 := Int.tmod_eq_emod_of_nonneg (a := a) (b := (L : Int) + 1) h
  have h2 := Int.emod_nonneg a (b := (L : Int) + 1) (by omega)
  have h3 := Int.emod_lt_of_pos a (b := (L : Int) + 1) (by omega)
  rw [← h1] at h2 h3
  clear h1
  generalize Int.tmod a ((L : Int) + 1) = z at *
  exact ⟨z.toNat, ⟨by omega⟩, by omega⟩
theorem at_wrap {n q : Nat} (h1 : n ≤ 32) (h2 : q ≤ 100000) : wrap64 (12 + 16 * (n : Int) + (q : Int)) = ((12 + 16 * n + q : Nat) : Int) := by rw [wrapOk _ (by omega) (by omega)]; omega
theorem less_wrap {B : Nat} (h1 : 1 ≤ B) (h2 : B ≤ 1048576) : wrap64 ((B : Int) - 1) = ((B - 1 : Nat) : Int) := by rw [wrapOk _ (by omega) (by omega)]; omega
set_option maxHeartbeats 2000000 in
theorem turned_ev (l : List S72) (b : List Int) (a1 a2 : Int) (hf : fits l = true) (hp : packP l = (b, 0)) (hby : bytesT l) (ht : tot l ≤ 20000) (h0 : 0 ≤ a1) (h1 : a1 ≤ 65535) (h2 : 0 < a2) (h3 : a2 ≤ 255) :
    Ev (fun k => foundrylaw05_SfntTurned.j0 k l a1 a2 false) true := by
  obtain ⟨hm, hb, h4, hle⟩ := packP_zero hp
  have hn := fm_len hm
  have hok : ∀ t ∈ sortT l, okT t := fun t ht => fm_ok hm t ((sortT_perm l).mem_iff.1 ht)
  have hbyS : bytesT (sortT l) := fun t ht => hby t ((sortT_perm l).mem_iff.1 ht)
  have hri := sort_rising (fm_apart hm)
  have hlen := lay_tot hok
  rw [sortT_len, ← hb] at hlen
  have htot := bodL_tot (sortT l)
  rw [tot_perm (sortT_perm l)] at htot
  have hall : b.all byteB = true := by rw [hb]; exact lay_all hbyS
  have hpk : sfnt_Pack.f l = some (b, 0) := by rw [← hp]; exact pack_eq hf
  have hb2 : b = headL (sortT l).length ++ dirL (sortT l) (12 + 16 * ((sortT l).length : Int)) ++ bodL (sortT l) := hb
  obtain ⟨n, hnl⟩ : ∃ n, l.length = n := ⟨_, rfl⟩
  rw [hnl] at hlen hn
  obtain ⟨L, hL⟩ : ∃ L, (bodL (sortT l)).length = L := ⟨_, rfl⟩
  rw [hL] at hlen htot
  obtain ⟨B, hB⟩ : ∃ B, b.length = B := ⟨_, rfl⟩
  rw [hB] at hlen h4 hle
  obtain ⟨q, HQ, hqL⟩ := tmod_at L h0
  have hq2 : q ≤ 100000 := by omega
  have hB1 : 1 ≤ B := by omega
  have W : Aside0 (wrap64 ((B : Int) - 12) = (B : Int) - 12 ∧ wrap64 (16 * (n : Int)) = 16 * (n : Int) ∧ wrap64 ((B : Int) - 12 - 16 * (n : Int)) = (L : Int) ∧ wrap64 ((L : Int) + 1) = (L : Int) + 1 ∧ wrap64 a1 = a1 ∧ wrap64 (12 + 16 * (n : Int)) = 12 + 16 * (n : Int)) := ⟨wraps6 hn.2.1 hlen hle h0 h1⟩
  have W7 := Aside0.mk (at_wrap (n := n) (q := q) hn.2.1 hq2)
  have W8 := Aside0.mk (less_wrap (B := B) hB1 hle)
  have hcut : unpackP (b.take (B - 1)) = ([], 2) := odd_bad (by rw [List.all_eq_true] at hall ⊢; exact fun x hx => hall x (List.mem_of_mem_take hx)) (by rw [List.length_take]; omega)
  have hlong : unpackP (b ++ [a2]) = ([], 2) := odd_bad (all_app hall (by
    simp only [List.all_cons, List.all_nil, Bool.and_true, byteB, Bool.and_eq_true, decide_eq_true_eq]
    omega)) (by rw [List.length_append, hB]; show (B + 1) % 4 ≠ 0; omega)
  have hbt : (b.take (B - 1)).all byteB = true := by rw [List.all_eq_true] at hall ⊢; exact fun x hx => hall x (List.mem_of_mem_take hx)
  have ecut := unpack_ev hbt (by rw [List.length_take]; omega)
  have h2all : [a2].all byteB = true := by
    simp only [List.all_cons, List.all_nil, Bool.and_true, byteB, Bool.and_eq_true, decide_eq_true_eq]
    omega
  have hll : (b ++ [a2]).length = B + 1 := by rw [List.length_append, hB]; rfl
  have elong := unpack_ev (b := b ++ [a2]) (all_app hall h2all) (by rw [hll]; omega)
  rw [hcut] at ecut
  rw [hlong] at elong
  have HBL : Aside0 ((B < 140737488355328) = True) := ⟨eq_true (by omega)⟩
  have HL1 : Aside0 (((L : Int) + 1 = 0) = False) := ⟨eq_false (by omega)⟩
  refine Ev.step (fun k => by
    simp only [foundrylaw05_SfntTurned.j0, Bool.false_eq_true, hpk, Option.bind_some, hnl, hB, W.out.1, W.out.2.1, W.out.2.2.1, W.out.2.2.2.1, W.out.2.2.2.2.1, W.out.2.2.2.2.2, HQ.out, W7.out, W8.out, List.nil_append, List.length_nil, Nat.zero_add, HBL.out, HL1.out, if_true, if_false] <;> rfl) ?_
  by_cases hk : 12 + 16 * n + q < B
  · have hk' : ((12 + 16 * n + q : Nat) : Int) < (B : Int) := by omega
    obtain ⟨k, hkq⟩ : ∃ k, 12 + 16 * n + q = k := ⟨_, rfl⟩
    rw [hkq] at hk hk'
    simp only [hkq, if_pos hk', Int.toNat_natCast]
    have hkb : k < b.length := by omega
    have hrd : rd b (k : Int) = b[k] := by simp [rd, hkb]
    have hbk : 0 ≤ b[k] ∧ b[k] ≤ 255 := by
      rw [List.all_eq_true] at hall
      have := hall _ (List.getElem_mem hkb)
      simpa [byteB] using this
    obtain ⟨x1, x2, x3⟩ := xor_ne hbk.1 hbk.2 (by omega) h3 (by omega : a2 ≠ 0)
    obtain ⟨c, hc⟩ : ∃ c, bits .xor .u8 b[k] a2 = c := ⟨_, rfl⟩
    rw [hc] at x1 x2 x3
    have hdl := dirL_at hok
    have hset : b.set k c = headL (sortT l).length ++ dirL (sortT l) (12 + 16 * ((sortT l).length : Int)) ++ (bodL (sortT l)).set q c := by
      conv => lhs; rw [hb2]
      rw [List.set_append_right _ _ (by rw [hdl, sortT_len, hnl]; omega), hdl, sortT_len, hnl, show k - (12 + 16 * n) = q by omega]
    have hbq : (bodL (sortT l))[q]? ≠ some c := by
      have e : b[k]? = (bodL (sortT l))[q]? := by
        conv => lhs; rw [hb2]
        rw [List.getElem?_append_right (by rw [hdl, sortT_len, hnl]; omega), hdl, sortT_len, hnl, show k - (12 + 16 * n) = q by omega]
      rw [← e, List.getElem?_eq_getElem hkb]
      intro h
      exact x1 (Option.some.inj h).symm
    have hbad : unpackP (b.set k c) = ([], 2) := by
      rw [hset]
      exact unpackP_turned hok (by rw [sortT_len, hnl]; exact hn.2.1) hri hbyS (by omega) hbq x2 x3
    have ebad := unpack_ev (b := b.set k c) (by
      rw [List.all_eq_true] at hall ⊢
      intro x hx
      rcases List.mem_or_eq_of_mem_set hx with hx | rfl
      · exact hall x hx
      · simp [byteB]; omega) (by rw [List.length_set]; omega)
    rw [hbad] at ebad
    refine Ev.congr (fun k => by rw [if_pos (by omega), hrd, hc]) ?_
    refine Ev.bind ebad ?_
    refine Ev.congr (fun k => by rw [if_pos (by omega), if_pos (by omega)]) ?_
    refine Ev.bind ecut ?_
    refine Ev.bind elong ?_
    refine Ev.congr (fun k => ?_) (Ev.now true)
    simp [hk']
  · have hk' : ¬ (((12 + 16 * n + q : Nat) : Int) < (B : Int)) := by omega
    simp only [if_neg hk']
    have eall := unpack_ev hall (by omega)
    rw [unpackP_of_pack hp] at eall
    refine Ev.bind eall ?_
    refine Ev.congr (fun k => by rw [if_pos (by omega), if_pos (by omega)]) ?_
    refine Ev.bind ecut ?_
    refine Ev.bind elong ?_
    refine Ev.congr (fun k => ?_) (Ev.now true)
    simp [hk']
    omega
theorem SfntTurned (l : List S72) (a1 a2 : Int) (h0 : l.length * 40 ≤ 140737488351232 ∧ ∀ x ∈ l, x.f0.size ≤ 140737488351232 ∧ (x.f1.length * 1 ≤ 140737488351232 ∧ ∀ y ∈ x.f1, (Lit.int .u8 y).wf = true)) (h1 : (Lit.int .u16 a1).wf = true) (h2 : (Lit.int .u8 a2).wf = true) :
    ∃ k : Nat, foundrylaw05_SfntTurned.f k l a1 a2 = some true := by
  refine Ev.rounds (g := fun k => foundrylaw05_SfntTurned.f k l a1 a2) ?_
  unfold foundrylaw05_SfntTurned.f
  simp only [show foundrylaw05_awake.f = some true from rfl, Option.bind_some, if_true]
  have no : Ev (fun k => foundrylaw05_SfntTurned.j0 k l a1 a2 true) true := Ev.step (fun k => by rw [foundrylaw05_SfntTurned.j0, if_pos rfl]; rfl) (Ev.now _)
  obtain ⟨r, hev, hr⟩ := few_ev l (by omega)
  refine Ev.bind hev ?_
  have hf : fits l = true := by
    unfold fits
    rw [Bool.and_eq_true, decide_eq_true_eq, List.all_eq_true]
    exact ⟨by omega, fun t ht => decide_eq_true (h0.2 t ht).1⟩
  have hby : bytesT l := fun t ht => wf_all (h0.2 t ht).2.2
  simp [Lit.wf, IntKind.min, IntKind.max, IntKind.bits, IntKind.signed] at h1 h2
  cases r with
  | false => simp only [Bool.false_eq_true, if_false]; exact no
  | true =>
    simp only [if_true]
    by_cases hz : a2 = 0
    · rw [hz] at no ⊢; exact no
    · rw [show (a2 == 0) = false by simpa using hz]
      have hp : sfnt_Pack.f l = some (packP l) := pack_eq hf
      by_cases h4 : (packP l).2 = 0
      · have e : packP l = ((packP l).1, 0) := by rw [← h4]
        exact turned_ev l (packP l).1 a1 a2 hf e hby (hr rfl) (by omega) (by omega) (by omega) (by omega)
      · exact Ev.step (fun k => by rw [foundrylaw05_SfntTurned.j0, if_neg (by simp), hp, Option.bind_some, if_neg h4]) (Ev.now _)
end Go.Proofs.Ytmppdgjnibamlaa.Pure
