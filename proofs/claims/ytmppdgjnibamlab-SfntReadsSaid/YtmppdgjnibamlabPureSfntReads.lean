/- SfntReads: plain. -/
import Derived.Test.YtmppdgjnibamlabPSfx7
import Derived.Test.YtmppdgjnibamlabSfX
namespace Go.Proofs.Ytmppdgjnibamlab.Pure
open Go.RowKit Go.Proofs.Ytmppdgjnibamlab.PSf Go.Proofs.YtmppdgjnibamlabW.PrintWords Go.Proofs.YtmppdgjnibamlabW.PrintLast Go.Proofs.Ytmppdgjnibamlab.Pag
set_option linter.unusedVariables false
set_option linter.unusedSimpArgs false

theorem wf_bytes {l : List Int} (h : ∀ x ∈ l, (Lit.int .u8 x).wf = true) : l.all byteB = true := by
  rw [List.all_eq_true]
  intro x hx
  have := h x hx
  simp [Lit.wf, IntKind.min, IntKind.max, IntKind.bits, IntKind.signed] at this
  simp [byteB]; omega
/-- What the reference reads. -/
def runB (b : List Int) (L : List S115) : List S123 × Int := if fm L = true then (if lay (sortT L) = b then (L.map vc, 0) else ([], 2)) else ([], 2)
theorem rows_facts (b : List Int) (hb : b.all byteB = true) (n : Nat) : (∀ t ∈ rows b n, t.f0.size ≤ 4) ∧ bytesT (rows b n) := by
  refine ⟨fun t ht => ?_, fun t ht => ?_⟩ <;> obtain ⟨i, _, rfl⟩ := List.mem_map.1 ht
  · exact tagP_size _ _
  · exact cutP_bytes hb _ _
theorem rend_ev {b : List Int} (hb : b.all byteB = true) (hl : b.length ≤ 1048576) (n : Nat) :
    Ev (fun k => (foundryref05_Formed.f k ((rows b n).map vc)).bind fun t187 => (if t187 = true then ((foundryref05_file.f ((rows b n).map vc)).bind fun t188 => ((foundryref04_Same.f k t188 b).bind fun t191 => (if t191 = true then (some ((rows b n).map vc, (0 : Int))) else (some (([] : List (S123)), 2))))) else (some (([] : List (S123)), 2)))) (runB b (rows b n)) := by
  obtain ⟨h1, h2⟩ := rows_facts b hb n
  have hf := rform_ev ((rows b n).map vc) (fun t ht => by
    obtain ⟨u, hu, rfl⟩ := List.mem_map.1 ht
    have := h1 u hu
    show u.f0.size ≤ _
    omega)
  rw [cv_vc] at hf
  refine Ev.bind hf ?_
  unfold runB
  cases hm : fm (rows b n) with
  | false => simp only [Bool.false_eq_true, if_false]; exact Ev.now _
  | true =>
    simp only [if_true]
    have e : foundryref05_file.f ((rows b n).map vc) = some (lay (sortT (rows b n))) := by
      unfold foundryref05_file.f
      rw [cv_vc, if_pos ⟨hm, by
        rw [List.all_eq_true]
        intro t ht
        obtain ⟨u, hu, rfl⟩ := List.mem_map.1 ht
        exact h2 u hu⟩]
    refine Ev.congr (fun k => by rw [e, Option.bind_some]) ?_
    have hk := fm_len hm
    have hll : (lay (sortT (rows b n))).length ≤ 1000000000 := by
      have ho : ∀ t ∈ sortT (rows b n), okT t := fun t ht => fm_ok hm t ((sortT_perm _).mem_iff.1 ht)
      rw [lay_tot ho]
      have h3 : ∀ m : List S115, (∀ t ∈ m, okT t) → (bodL m).length ≤ 1048580 * m.length := by
        intro m
        induction m with
        | nil => intro _; simp [bodL]
        | cons t r ih =>
          intro h
          have := ih (fun t ht => h t (by simp [ht]))
          have ht := (h t (by simp)).2
          rw [bodL_cons_len, List.length_cons]
          have : padN t.f1.length 4 < 4 := by unfold padN; omega
          omega
      have := h3 _ ho
      rw [sortT_len] at this ⊢
      omega
    refine Ev.bind (same_ev hll) ?_
    by_cases he : lay (sortT (rows b n)) = b
    · rw [decide_eq_true he]; simp only [if_true, he]; exact Ev.now _
    · rw [decide_eq_false he]; simp only [if_neg he, Bool.false_eq_true, if_false]; exact Ev.now _
theorem run_loop {b : List Int} (hb : b.all byteB = true) (hl : b.length ≤ 1048576) (n : Nat) (hn : n ≤ 70000) : ∀ d i : Nat, i + d = min n 33 →
    Ev (fun k => foundryref05_Unpack.l0 k b (n : Int) ((rows b i).map vc) (i : Int)) (runB b (rows b (min n 33))) := by
  intro d
  induction d with
  | zero =>
    intro i hi
    have e : i = min n 33 := by omega
    rw [← e]
    have hend := rend_ev hb hl i
    by_cases h : (i : Int) < (n : Int)
    · refine Ev.step (fun k => by rw [foundryref05_Unpack.l0, if_pos h]) ?_
      rw [decide_eq_false (by omega)]
      exact Ev.step (fun k => by rw [foundryref05_Unpack.j1, if_neg (by decide)]) hend
    · refine Ev.step (fun k => by rw [foundryref05_Unpack.l0, if_neg h]) ?_
      exact Ev.step (fun k => by rw [foundryref05_Unpack.j1, if_neg (by decide)]) hend
  | succ d ih =>
    intro i hi
    have hn2 := ih (i + 1) (by omega)
    have hi33 : i < 33 := by omega
    have hin : i < n := by omega
    have w1 : wrap64 (12 + wrap64 (16 * (i : Int))) = 12 + 16 * (i : Int) := by unfold wrap64; omega
    have w2 : wrap64 (20 + wrap64 (16 * (i : Int))) = 20 + 16 * (i : Int) := by unfold wrap64; omega
    have w3 : wrap64 (24 + wrap64 (16 * (i : Int))) = 24 + 16 * (i : Int) := by unfold wrap64; omega
    have r1 := fieldP_range hb (20 + 16 * (i : Int)) (n := 4) (.inr rfl)
    have r2 := fieldP_range hb (24 + 16 * (i : Int)) (n := 4) (.inr rfl)
    refine Ev.step (fun k => by rw [foundryref05_Unpack.l0, if_pos (by omega)]) ?_
    rw [decide_eq_true (by omega)]
    refine Ev.step (fun k => by rw [foundryref05_Unpack.j1, if_pos rfl, w1, w2, w3, rtag_eq (by omega) (by omega) (by omega), Option.bind_some]) ?_
    refine Ev.bind (ru32_ev hb (by omega) _) ?_
    refine Ev.bind (ru32_ev hb (by omega) _) ?_
    refine Ev.congr (fun k => by rw [rcut_eq (by omega) (by omega) (by omega) (by omega) (by omega), Option.bind_some, if_pos (by simp [rows]; omega), wsucc (by omega)]) ?_
    rw [rows_succ, List.map_append] at hn2
    exact hn2
theorem runp_ev {b : List Int} (hb : b.all byteB = true) (hl : b.length ≤ 1048576) : ∃ n : Nat, (fieldP b 4 2).1 = (n : Int) ∧ Ev (fun k => foundryref05_Unpack.f k b) (runB b (rows b (min n 33))) := by
  have hr : 0 ≤ (fieldP b 4 2).1 ∧ (fieldP b 4 2).1 ≤ 65536 := by
    unfold fieldP
    split
    · simp
    · have h1 := numBE_range ((b.drop (4 : Int).toNat).take (2 : Int).toNat) (by rw [List.all_eq_true] at hb ⊢; exact fun x hx => hb x (List.mem_of_mem_drop (List.mem_of_mem_take hx)))
      have h2 : ((b.drop (4 : Int).toNat).take (2 : Int).toNat).length ≤ 2 := by rw [List.length_take]; exact Nat.min_le_left _ _
      have h3 : (256 : Int) ^ ((b.drop (4 : Int).toNat).take (2 : Int).toNat).length ≤ 65536 := by
        generalize ((b.drop (4 : Int).toNat).take (2 : Int).toNat).length = q at h2
        rcases (show q = 0 ∨ q = 1 ∨ q = 2 by omega) with rfl | rfl | rfl <;> decide
      simp only
      omega
  obtain ⟨n, hn⟩ : ∃ n : Nat, (fieldP b 4 2).1 = (n : Int) := ⟨(fieldP b 4 2).1.toNat, by omega⟩
  refine ⟨n, hn, ?_⟩
  unfold foundryref05_Unpack.f
  simp only [if_neg (show ¬ ((b.length : Int) > 1048576) by omega)]
  unfold foundryref04_U16.f
  refine Ev.bind (Ev.bind (number_ev hb (by omega) 4 2 (by omega)) (Ev.now _)) ?_
  show Ev (fun k => foundryref05_Unpack.l0 k b (fieldP b 4 2).1 [] 0) _
  rw [hn]
  exact run_loop hb hl n (by omega) (min n 33) 0 (by omega)
/-- Both read alike. -/
theorem read_alike {b : List Int} (hb : b.all byteB = true) (hl : b.length ≤ 1048576) {n : Nat} (hn : (fieldP b 4 2).1 = (n : Int)) : runB b (rows b (min n 33)) = ((unpackP b).1.map vc, (unpackP b).2) := by
  have one : ∀ l, unpackP b = (l, 0) → l = rows b (min n 33) ∧ packP l = (b, 0) := by
    intro l h
    rcases unpackP_or hb with h0 | ⟨l', h1, h2, _⟩
    · rw [h0] at h; exact absurd (show (2 : Int) = 0 from congrArg Prod.snd h) (by decide)
    · obtain rfl : l' = l := by rw [h1] at h; exact congrArg Prod.fst h
      refine ⟨?_, h2⟩
      unfold unpackP at h
      split at h
      · rename_i hq
        rw [hn, Int.toNat_natCast] at h
        cases hu : unL b n 0 [] with
        | none => rw [hu] at h; exact absurd (show (2 : Int) = 0 from congrArg Prod.snd h) (by decide)
        | some m =>
          rw [hu] at h
          have e := unL_rows b n 0 [] m rfl hu
          simp only [endP] at h
          split at h
          · split at h
            · obtain rfl : m = l' := congrArg Prod.fst h
              rw [e]; congr 1; omega
            · exact absurd (show (2 : Int) = 0 from congrArg Prod.snd h) (by decide)
          · exact absurd (show (2 : Int) = 0 from congrArg Prod.snd h) (by decide)
      · exact absurd (show (2 : Int) = 0 from congrArg Prod.snd h) (by decide)
  have pk : ∀ L, packP L = (b, 0) ↔ fm L = true ∧ lay (sortT L) = b := by
    intro L
    unfold packP
    constructor
    · intro h
      split at h
      · rename_i hm
        split at h
        · exact ⟨hm, congrArg Prod.fst h⟩
        · exact absurd (show (3 : Int) = 0 from congrArg Prod.snd h) (by decide)
      · exact absurd (show (1 : Int) = 0 from congrArg Prod.snd h) (by decide)
    · rintro ⟨h1, h2⟩
      rw [if_pos h1, h2, if_pos hl]
  by_cases hp : packP (rows b (min n 33)) = (b, 0)
  · have h1 := (pk _).1 hp
    have h2 := unpackP_of_pack hp
    have h3 := (one _ h2).1
    rw [h2, h3]
    unfold runB
    rw [if_pos h1.1, if_pos h1.2]
  · have h1 : runB b (rows b (min n 33)) = ([], 2) := by
      unfold runB
      split
      · rename_i hm
        split
        · rename_i he; exact absurd ((pk _).2 ⟨hm, he⟩) hp
        · rfl
      · rfl
    rw [h1]
    rcases unpackP_or hb with h0 | ⟨l, h2, h3, _⟩
    · rw [h0]; rfl
    · have h4 := (one l h2).1
      rw [h4] at h3
      exact absurd h3 hp
theorem rsame_ev (l : List S123) (hl : l.length ≤ 1000000) (hb : ∀ t ∈ l, t.f1.length ≤ 1000000000) : Ev (fun k => foundryref05_Same.f k l l) true := by
  unfold foundryref05_Same.f
  simp only [if_true]
  have h : ∀ d i : Nat, i + d = l.length → Ev (fun k => foundryref05_Same.l0 k l l (i : Int)) true := by
    intro d
    induction d with
    | zero => intro i hi; exact Ev.step (fun k => by rw [foundryref05_Same.l0, if_neg (by omega)]) (Ev.now _)
    | succ d ih =>
      intro i hi
      have hlt : i < l.length := by omega
      have e : rd_T123 l (i : Int) = l[i] := by simp [rd_T123, hlt]
      have hs := same_ev (x := l[i].f1) (y := l[i].f1) (hb _ (List.getElem_mem hlt))
      rw [decide_eq_true rfl] at hs
      refine Ev.step (fun k => by rw [foundryref05_Same.l0, if_pos (by omega), if_pos (by omega), if_pos (by omega), if_pos rfl, e, wsucc (by omega)]) ?_
      refine Ev.bind hs ?_
      simp only [if_true]
      exact ih (i + 1) (by omega)
  exact h l.length 0 (by omega)
theorem SfntReads : foundrylaw05_SfntReads.Pure := by
  intro b _ _ hw
  refine Ev.rounds ?_
  unfold foundrylaw05_SfntReads.f
  simp only [show foundrylaw05_awake.f = some true from rfl, Option.bind_some, if_true]
  have hb := wf_bytes hw
  have yes : Ev (fun k => foundrylaw05_SfntReads.j0 k b true) true := Ev.step (fun k => by rw [foundrylaw05_SfntReads.j0, if_pos rfl]; rfl) (Ev.now _)
  have long (h : 1048576 < b.length) : Ev (fun k => foundrylaw05_SfntReads.j0 k b false) true := by
    refine Ev.step (fun k => by rw [foundrylaw05_SfntReads.j0, if_neg (by decide), sfnt_Unpack.f, if_pos (by omega), Option.bind_some, foundryref05_Unpack.f, if_pos (by omega), Option.bind_some, if_pos rfl]) ?_
    refine Ev.bind (plain_ev [] (by simp)) ?_
    exact Ev.bind (rsame_ev [] (by simp) (by simp)) (Ev.now _)
  have short (h : b.length ≤ 1048576) : Ev (fun k => foundrylaw05_SfntReads.j0 k b false) true := by
    refine Ev.step (fun k => by rw [foundrylaw05_SfntReads.j0, if_neg (by decide)]) ?_
    refine Ev.bind (unpack_ev hb h) ?_
    obtain ⟨n, hn, hr⟩ := runp_ev hb h
    rw [read_alike hb h hn] at hr
    refine Ev.bind hr ?_
    simp only [if_true]
    have hll : (unpackP b).1.length ≤ 1000 ∧ ∀ t ∈ (unpackP b).1, t.f1.length ≤ 1048576 := by
      rcases unpackP_or hb with h0 | ⟨l, h2, h3, h4, _⟩
      · rw [h0]; simp
      · rw [h2]
        refine ⟨by simp only; omega, fun t ht => ?_⟩
        unfold packP at h3
        split at h3
        · rename_i hm; exact (fm_ok hm t ht).2
        · exact absurd (show (1 : Int) = 0 from congrArg Prod.snd h3) (by decide)
    refine Ev.bind (plain_ev _ (by omega)) ?_
    refine Ev.bind (rsame_ev _ (by rw [List.length_map]; omega) (fun t ht => ?_)) (Ev.now _)
    obtain ⟨u, hu, rfl⟩ := List.mem_map.1 ht
    have := hll.2 u hu
    show u.f1.length ≤ _
    omega
  by_cases hl : (b.length : Int) > 20000
  · simp only [if_pos hl]
    by_cases hl2 : (b.length : Int) ≤ 1048576
    · rw [decide_eq_true hl2]; exact yes
    · rw [decide_eq_false hl2]; exact long (by omega)
  · simp only [if_neg hl]
    exact short (by omega)
end Go.Proofs.Ytmppdgjnibamlab.Pure
