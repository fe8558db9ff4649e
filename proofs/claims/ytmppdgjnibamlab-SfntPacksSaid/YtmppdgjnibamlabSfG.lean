/- sfnt.Find: the contract, in the print's form. No condition but its own premises. -/
import Derived.Test.YtmppdgjnibamlabSfM
namespace Go.Proofs.Ytmppdgjnibamlab.Pag
open Go.RowKit Go.Proofs.Ytmppdgjnibamlab.PSf Go.Proofs.YtmppdgjnibamlabW.PrintWords
set_option linter.unusedVariables false
set_option linter.unusedSimpArgs false

/-- Where the tag is, from place i on. -/
def idxP (tag : ByteArray) : List S115 → Int → Int
  | [], _ => -1
  | t :: r, i => if t.f0.toList = tag.toList then i else idxP tag r (i + 1)
def findP (tag : ByteArray) : List S115 → List Int × Int
  | [] => ([], 5)
  | t :: r => if t.f0.toList = tag.toList then (t.f1, 0) else findP tag r
def fitsF (l : List S115) : Bool := decide (l.length ≤ 140737488351232) && l.all fun t => decide (t.f1.length ≤ 140737488355328)
def sfnt_Find.f (l : List S115) (tag : ByteArray) : Option (List Int × Int) := if fitsF l = true then some (findP tag l) else none
theorem idx_find (tag : ByteArray) : ∀ (l : List S115) (i : Nat), (idxP tag l (i : Int) = -1 ∧ findP tag l = ([], 5)) ∨ ∃ j : Nat, ∃ h : j < l.length, idxP tag l (i : Int) = ((i + j : Nat) : Int) ∧ findP tag l = (l[j].f1, 0)
  | [], i => .inl ⟨rfl, rfl⟩
  | t :: r, i => by
    unfold idxP findP
    by_cases h : t.f0.toList = tag.toList
    · rw [if_pos h, if_pos h]
      exact .inr ⟨0, by simp, by simp, rfl⟩
    · rw [if_neg h, if_neg h]
      rcases idx_find tag r (i + 1) with ⟨h1, h2⟩ | ⟨j, hj, h1, h2⟩
      · exact .inl ⟨by rw [← h1]; rfl, h2⟩
      · exact .inr ⟨j + 1, by simp; omega, by rw [show ((i : Int) + 1) = ((i + 1 : Nat) : Int) by omega, h1]; omega, by rw [h2]; rfl⟩

set_option maxHeartbeats 1000000 in
theorem findclosure_calls (t0 tag : ByteArray) (B : Option Addr) (L d cb : Nat) (W : World) (hc : W.cell? ⟨cb, 0, none⟩ = some (.string tag)) :
    Calls Try.prog 83 #[.agg #[.string t0, .slice B L d], .pointer (some ⟨cb, 0, none⟩)] W fun e w' => e = .returned (.bool (t0.toList == tag.toList)) ∧ Below W.heap.size W w' := by
  have hcb : ∀ o, (W.alloc o).cell? ⟨cb, 0, none⟩ = some (.string tag) := fun o => pw_cell_below (below_alloc (Below.refl _ _) o) hc
  go_enter Try.func83, Try.ntmps83
  go_wp2
  go_ret
  exact ⟨rfl, below_alloc (Below.refl _ _) _⟩

set_option maxHeartbeats 2000000 in
set_option maxRecDepth 100000 in
theorem index_calls (A0 : Option Addr) (c0 : Nat) (l0 : List S115) (tag : ByteArray) (cb : Nat) (w : World) (hr0 : Kd.C k115 w A0 l0.length l0) (hl : l0.length ≤ 140737488351232) (hc : w.cell? ⟨cb, 0, none⟩ = some (.string tag)) :
    Calls Try.prog 82 #[.slice A0 l0.length c0, .func (.func 83) #[] #[.pointer (some ⟨cb, 0, none⟩)]] w fun e w' => e = .returned (.int .i64 (idxP tag l0 0)) ∧ Below w.heap.size w w' := by
  have eg : ∀ args w, (callFunc 83 args).run Try.prog w = .ok (.enter 83 args) w := enters_of Try.func83 (by kernel_rfl) rfl
  have HR0 := Aside0.mk hr0
  have HC := Aside0.mk hc
  have HB0 := Aside0.mk (Below.refl w.heap.size w)
  have HI0 : Aside0 (idxP tag (l0.drop 0) ((0 : Nat) : Int) = idxP tag l0 0) := ⟨rfl⟩
  obtain ⟨RES, hres⟩ : ∃ RES, idxP tag l0 0 = RES := ⟨_, rfl⟩
  rw [hres] at HI0 ⊢
  clear hr0 hc hres
  go_enter Try.func82, Try.ntmps82
  go_wp2
  go_loopw [8] (fun i wr => ∃ j : Nat, i = .int .i64 (j : Int) ∧ j ≤ l0.length ∧ Aside0 (Below w.heap.size w wr) ∧ Aside0 (idxP tag (l0.drop j) (j : Int) = RES)) (fun i _ => l0.length - (RowKit.intOf i).toNat)
  case atStart => exact ⟨0, rfl, by omega, HB0, HI0⟩
  case round =>
    obtain ⟨j, rfl, hj, HB, HI⟩ := hrel
    clear HB0 HI0
    obtain ⟨wo, rfl⟩ : ∃ wo : World, wo = wr := ⟨_, rfl⟩
    by_cases hlt : j < l0.length
    · have hp : (0 : Int) ≤ (j : Int) := by omega
      have hq : (j : Int) < (l0.length : Int) := by omega
      obtain ⟨ad, B1, d1, had, hx0, hx1, hlc, hC1⟩ := at_T115 (Kd.C_below HR0.out HB.out) (j : Int) hp hq
      subst had
      simp only [Int.toNat_natCast] at hx0 hx1
      have hrd : rd_T115 l0 (j : Int) = l0[j] := by simp [rd_T115, hlt]
      have HD := HI.out
      rw [List.drop_eq_getElem_cons hlt, idxP] at HD
      rw [hrd] at hx0 hx1
      clear hlc hC1 hrd
      obtain ⟨tt, htt⟩ : ∃ tt, l0[j] = tt := ⟨_, rfl⟩
      rw [htt] at hx0 hx1 HD
      clear htt
      obtain ⟨t0, t1⟩ := tt
      simp only at hx0 hx1 HD
      have HCL := Aside0.mk (findclosure_calls t0 tag B1 t1.length d1 cb wo (pw_cell_below HB.out HC.out))
      by_cases he : t0.toList = tag.toList
      · rw [if_pos he] at HD
        have hb : (t0.toList == tag.toList) = true := by simpa using he
        rw [hb] at HCL
        have HDA := Aside0.mk HD
        clear he hb HI HD
        go_wp2_with (go_at_call 83; refine HCL.out.mono ?_; rintro e w1 ⟨rfl, hb⟩; have HB1 := Aside0.mk (below_then HB.out HB.out.size hb); clear hb HCL)
        go_ret
        exact ⟨ret_int HDA.out, HB1.out⟩
      · rw [if_neg he] at HD
        have hb : (t0.toList == tag.toList) = false := by simpa using he
        rw [hb] at HCL
        have HD' : Aside0 (idxP tag (l0.drop (j + 1)) ((j + 1 : Nat) : Int) = RES) := ⟨by rw [← HD]; rfl⟩
        clear he hb HD HI
        go_wp2_with (go_at_call 83; refine HCL.out.mono ?_; rintro e w1 ⟨rfl, hb⟩; have HB1 := Aside0.mk (below_then HB.out HB.out.size hb); clear hb HCL)
        go_roundw
        case rel => exact ⟨j + 1, by go_num, by omega, HB1, HD'⟩
        case measure => simp [RowKit.intOf]; omega
    · obtain rfl : j = l0.length := by omega
      have hR : RES = -1 := by
        rw [← HI.out, List.drop_of_length_le (Nat.le_refl _)]; rfl
      subst hR
      clear HI
      go_wp2
      go_ret
      exact ⟨rfl, HB.out⟩
theorem sfnt_Find.calls (A0 : Option Addr) (c0 : Nat) (l0 : List S115) (a1 : ByteArray) (r1 : List Int) (r2 : Int) (w : World) (hr0 : Kd.C k115 w A0 l0.length l0) (hc0 : l0.length ≤ c0) (h : sfnt_Find.f l0 a1 = some (r1, r2)) :
    Calls Try.prog 39 #[.slice A0 l0.length c0, .string a1] w fun e w' => ∃ v0_ : Value, e = .returned (.tuple #[v0_, .int .i64 r2]) ∧ Kd.R (Kd.int .u8) 5 w' w.heap.size (fun _ => True) v0_ r1 ∧ Below w.heap.size w w' := by
  unfold sfnt_Find.f at h
  split at h
  · rename_i hf
    simp only [fitsF, Bool.and_eq_true, decide_eq_true_eq, List.all_eq_true] at hf
    have hBA := below_alloc (Below.refl w.heap.size w) (.cells #[.string a1] 9)
    have hcell : (w.alloc (.cells #[.string a1] 9)).cell? ⟨w.heap.size, 0, none⟩ = some (.string a1) := by
      have h := heap_alloc_new w (.cells #[.string a1] 9)
      simp only [World.cell?, h]; rfl
    have HI := Aside0.mk (index_calls A0 c0 l0 a1 w.heap.size _ (Kd.C_below hr0 hBA) hf.1 hcell)
    have HBA := Aside0.mk hBA
    rcases idx_find a1 l0 0 with ⟨h1, h2⟩ | ⟨j, hj, h1, h2⟩
    · rw [h2] at h
      obtain ⟨rfl, rfl⟩ := Prod.mk.inj (Option.some.inj h)
      rw [show idxP a1 l0 0 = -1 from h1] at HI
      clear hr0 hc0 h hf hBA hcell h1 h2
      go_enter Try.func39, Try.ntmps39
      go_wp2_with (go_at_call 82; refine HI.out.mono ?_; rintro e w1 ⟨rfl, hb⟩; have HB1 := Aside0.mk (below_then HBA.out HBA.out.size hb); clear hb HI)
      go_ret2
      exact ⟨_, rfl, Kd.R_nil _ _ _ _ _, HB1.out⟩
    · rw [h2] at h
      obtain ⟨rfl, rfl⟩ := Prod.mk.inj (Option.some.inj h)
      have h1' : idxP a1 l0 0 = (j : Int) := by have := h1; simpa using this
      rw [h1'] at HI
      have HR0 := Aside0.mk hr0
      have hll := hf.2 l0[j] (List.getElem_mem hj)
      have HLL := Aside0.mk hll
      have hp : (0 : Int) ≤ (j : Int) := by omega
      have hq : (j : Int) < (l0.length : Int) := by omega
      have hrd : rd_T115 l0 (j : Int) = l0[j] := by simp [rd_T115, hj]
      obtain ⟨ad, B1, d1, had, hx0, hx1, hlc, hC1⟩ := at_T115 hr0 (j : Int) hp hq
      subst had
      simp only [Int.toNat_natCast, hrd] at hx0 hx1 hlc hC1
      obtain ⟨t1, ht1⟩ : ∃ t1, l0[j].f1 = t1 := ⟨_, rfl⟩
      rw [ht1] at hx1 hlc hC1 HLL ⊢
      have HX1 := Aside0.mk (fun (W : World) (hb : Below w.heap.size w W) => pw_cell_below hb hx1)
      have HCL := Aside0.mk (fun (W : World) (hb : Below w.heap.size w W) => slices_Clone_byte_byte.calls B1 d1 t1 t1 W (Kd.C_below hC1 hb) hlc (by unfold slices_Clone_byte_byte.f; rw [if_pos HLL.out]))
      clear hr0 hc0 h hf hBA hcell h1 h2 h1' hx0 hx1 hlc hC1 hrd hll ht1
      go_enter Try.func39, Try.ntmps39
      go_wp2_with (first
        | (go_at_call 82; refine HI.out.mono ?_; rintro e w1 ⟨rfl, hb⟩; have HB1 := Aside0.mk (below_then HBA.out HBA.out.size hb); have hx1 := HX1.out _ HB1.out; clear hb HI)
        | (go_at_call 84; refine (HCL.out _ HB1.out).mono ?_; rintro e w2 ⟨v, rfl, hR, hb⟩; have HR2 := Aside0.mk (Kd.R_lower hR HB1.out.size); have HB2 := Aside0.mk (below_then HB1.out HB1.out.size hb); clear hR hb))
      go_ret2
      exact ⟨_, rfl, HR2.out, HB2.out⟩
  · cases h
end Go.Proofs.Ytmppdgjnibamlab.Pag
