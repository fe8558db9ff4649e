/- The lookups of features, plain; the printed functions answer so. No condition. -/
import Derived.Test.YtmppdgjnibamlabPFex2
namespace Go.Proofs.Ytmppdgjnibamlab.Pag
open Go.RowKit Go.Proofs.Ytmppdgjnibamlab.PFe Go.Proofs.YtmppdgjnibamlabW.PrintWords
set_option linter.unusedVariables false
set_option linter.unusedSimpArgs false

theorem wrapOk (x : Int) (h0 : -9223372036854775808 ≤ x) (h1 : x ≤ 9223372036854775807) : wrap64 x = x := by unfold wrap64; omega

def hasB (l : List ByteArray) (s : ByteArray) : Bool := l.any fun t => decide (s.toList = t.toList)
def coordP (l : List Int) (a : Int) : Int := if a < l.length then rd l a else 0
def condB (l : List Int) (c : S58) : Bool := decide (0 ≤ c.f0) && (decide (c.f1 ≤ coordP l c.f0) && decide (coordP l c.f0 ≤ c.f2))
def holdsB (c : List S58) (l : List Int) : Bool := c.all (condB l)
def swapB (l3 : List Int) (n : Int) (s : S105) : Bool := decide (s.f1 = n) && holdsB s.f0 l3
def looksAt (l0 : List S102) (l1 : List S105) (n : Int) (l3 : List Int) : List Int := match l1.find? (swapB l3 n) with | some s => s.f2 | none => (rd_T102 l0 n).f1
def looksP (l0 : List S102) (l1 : List S105) (n : Int) (l3 : List Int) : List Int := if n < 0 then [] else if n ≥ (l0.length : Int) then [] else looksAt l0 l1 n l3
def in64 (x : Int) : Bool := decide (-9223372036854775808 ≤ x) && decide (x ≤ 9223372036854775807)
def listOk (l : List Int) : Bool := decide (l.length ≤ 1000000) && l.all in64
def setOk (l0 : List S102) (l1 : List S105) : Bool := (decide (l0.length ≤ 1000000) && l0.all fun x => listOk x.f1) && ((decide (l1.length ≤ 1000000) && l1.all fun x => listOk x.f2) && l1.all fun x => decide (x.f0.length ≤ 1000000))

theorem rd_getT58 {l : List S58} {i : Nat} (h : i < l.length) : rd_T58 l (i : Int) = l[i] := by simp [rd_T58, h]
theorem rd_getT105 {l : List S105} {i : Nat} (h : i < l.length) : rd_T105 l (i : Int) = l[i] := by simp [rd_T105, h]
theorem rd_getT102 {l : List S102} {i : Nat} (h : i < l.length) : rd_T102 l (i : Int) = l[i] := by simp [rd_T102, h]
theorem rd_getStr {l : List ByteArray} {i : Nat} (h : i < l.length) : rdOf ByteArray.empty l (i : Int) = l[i] := by simp [rdOf, h]

theorem hasB_cons (x : ByteArray) (l : List ByteArray) (s : ByteArray) : hasB (x :: l) s = (decide (s.toList = x.toList) || hasB l s) := rfl
theorem looksAt_hit {l0 : List S102} {s : S105} {l1 : List S105} {n : Int} {l3 : List Int} (h : swapB l3 n s = true) : looksAt l0 (s :: l1) n l3 = s.f2 := by unfold looksAt; rw [List.find?_cons, h]
theorem looksAt_miss {l0 : List S102} {s : S105} {l1 : List S105} {n : Int} {l3 : List Int} (h : swapB l3 n s = false) : looksAt l0 (s :: l1) n l3 = looksAt l0 l1 n l3 := by unfold looksAt; rw [List.find?_cons, h]
theorem index_ev (l : List ByteArray) (s : ByteArray) (hl : l.length ≤ 9223372036854775807) : ∀ d i : Nat, i + d = l.length → ∃ r, Ev (fun k => slices_Index_string_string.l0 k l s (l.length : Int) (i : Int)) r ∧ decide (r ≥ 0) = hasB (l.drop i) s := by
  intro d
  induction d with
  | zero =>
    intro i hi
    refine ⟨-1, Ev.step (fun k => by rw [slices_Index_string_string.l0, if_neg (by omega)]) (Ev.now _), ?_⟩
    rw [List.drop_of_length_le (by omega)]; rfl
  | succ d ih =>
    intro i hi
    have hlt : i < l.length := by omega
    have hd : l.drop i = l[i] :: l.drop (i + 1) := List.drop_eq_getElem_cons hlt
    by_cases e : s.toList = l[i].toList
    · refine ⟨(i : Int), Ev.step (fun k => by rw [slices_Index_string_string.l0, if_pos (by omega), if_pos (by omega), if_pos (by omega), rd_getStr hlt, if_pos e]) (Ev.now _), ?_⟩
      rw [hd, hasB_cons, decide_eq_true e]; simp
    · obtain ⟨r, hr, hb⟩ := ih (i + 1) (by omega)
      refine ⟨r, Ev.step (fun k => by rw [slices_Index_string_string.l0, if_pos (by omega), if_pos (by omega), if_pos (by omega), rd_getStr hlt, if_neg e, wrapOk _ (by omega) (by omega), show ((i : Int) + 1) = ((i + 1 : Nat) : Int) by omega]) hr, ?_⟩
      rw [hb, hd, hasB_cons, decide_eq_false e, Bool.false_or]
theorem contains_ev (l : List ByteArray) (s : ByteArray) (hl : l.length ≤ 9223372036854775807) : Ev (fun k => slices_Contains_string_string.f k l s) (hasB l s) := by
  obtain ⟨r, hr, hb⟩ := index_ev l s hl l.length 0 (by omega)
  rw [List.drop_zero] at hb
  unfold slices_Contains_string_string.f slices_Index_string_string.f
  exact Ev.bind hr (by rw [hb]; exact Ev.now _)

theorem holds_ev (c : List S58) (l : List Int) (hc : c.length ≤ 9223372036854775807) : ∀ d i : Nat, i + d = c.length → Ev (fun k => feats_Holds.l0 k l c (c.length : Int) (i : Int)) (holdsB (c.drop i) l) := by
  intro d
  induction d with
  | zero =>
    intro i hi
    rw [List.drop_of_length_le (by omega)]
    exact Ev.step (fun k => by rw [feats_Holds.l0, if_neg (by omega)]) (Ev.now true)
  | succ d ih =>
    intro i hi
    have hlt : i < c.length := by omega
    have hd : c.drop i = c[i] :: c.drop (i + 1) := List.drop_eq_getElem_cons hlt
    have hr := ih (i + 1) (by omega)
    have hw : wrap64 ((i : Int) + 1) = ((i + 1 : Nat) : Int) := by rw [wrapOk _ (by omega) (by omega)]; omega
    have hcons : holdsB (c.drop i) l = (condB l c[i] && holdsB (c.drop (i + 1)) l) := by rw [hd]; rfl
    rw [hcons]
    by_cases h0 : 0 ≤ c[i].f0
    · have hj : ∀ (b : Bool), b = decide (c[i].f0 < (l.length : Int)) → Ev (fun k => feats_Holds.j1 k l 0 c (c.length : Int) (i : Int) b c[i].f0 c[i].f1 c[i].f2) (condB l c[i] && holdsB (c.drop (i + 1)) l) := by
        intro b hb
        subst hb
        by_cases h1 : c[i].f0 < (l.length : Int)
        · by_cases h2 : rd l c[i].f0 < c[i].f1
          · refine Ev.step (fun k => by rw [feats_Holds.j1, if_pos (by simpa using h1), if_pos h0, if_pos h1, if_neg (by omega), if_pos h2]) ?_
            rw [show condB l c[i] = false by simp [condB, coordP, h1, h0]; omega]
            exact Ev.now _
          · by_cases h3 : rd l c[i].f0 > c[i].f2
            · refine Ev.step (fun k => by rw [feats_Holds.j1, if_pos (by simpa using h1), if_pos h0, if_pos h1, if_neg (by omega), if_neg h2, if_pos h3]) ?_
              rw [show condB l c[i] = false by simp [condB, coordP, h1, h0]; omega]
              exact Ev.now _
            · refine Ev.step (fun k => by rw [feats_Holds.j1, if_pos (by simpa using h1), if_pos h0, if_pos h1, if_neg (by omega), if_neg h2, if_neg h3, hw]) ?_
              rw [show condB l c[i] = true by simp [condB, coordP, h1, h0]; omega, Bool.true_and]
              exact hr
        · by_cases h2 : (0 : Int) < c[i].f1
          · refine Ev.step (fun k => by rw [feats_Holds.j1, if_neg (by simpa using h1), if_neg (by omega), if_pos h2]) ?_
            rw [show condB l c[i] = false by simp [condB, coordP, h1, h0]; omega]
            exact Ev.now _
          · by_cases h3 : (0 : Int) > c[i].f2
            · refine Ev.step (fun k => by rw [feats_Holds.j1, if_neg (by simpa using h1), if_neg (by omega), if_neg h2, if_pos h3]) ?_
              rw [show condB l c[i] = false by simp [condB, coordP, h1, h0]; omega]
              exact Ev.now _
            · refine Ev.step (fun k => by rw [feats_Holds.j1, if_neg (by simpa using h1), if_neg (by omega), if_neg h2, if_neg h3, hw]) ?_
              rw [show condB l c[i] = true by simp [condB, coordP, h1, h0]; omega, Bool.true_and]
              exact hr
      refine Ev.step (fun k => by rw [feats_Holds.l0, if_pos (by omega), if_pos (by omega), if_pos (by omega), rd_getT58 hlt, if_pos (by omega)]) (hj _ rfl)
    · refine Ev.step (f := fun k => feats_Holds.j1 k l 0 c (c.length : Int) (i : Int) false c[i].f0 c[i].f1 c[i].f2) (fun k => by rw [feats_Holds.l0, if_pos (by omega), if_pos (by omega), if_pos (by omega), rd_getT58 hlt, if_neg (by omega)]) ?_
      refine Ev.step (fun k => by rw [feats_Holds.j1, if_neg (by simp), if_pos (by omega)]) ?_
      rw [show condB l c[i] = false by simp [condB]; omega]
      exact Ev.now _
theorem holdsF_ev (c : List S58) (l : List Int) (hc : c.length ≤ 9223372036854775807) : Ev (fun k => feats_Holds.f k c l) (holdsB c l) := by
  have h := holds_ev c l hc c.length 0 (by omega)
  rw [List.drop_zero] at h
  exact h

theorem listOk_le {l : List Int} (h : listOk l = true) : l.length ≤ 1000000 := by simp only [listOk, Bool.and_eq_true, decide_eq_true_eq] at h; exact h.1
theorem clone_now {l : List Int} (h : l.length ≤ 1000000) : slices_Clone_int_int.f l = some l := by unfold slices_Clone_int_int.f; rw [if_pos (by omega)]
theorem setOk_0 {l0 : List S102} {l1 : List S105} (h : setOk l0 l1 = true) : l0.length ≤ 1000000 ∧ (∀ x ∈ l0, listOk x.f1 = true) ∧ l1.length ≤ 1000000 ∧ (∀ x ∈ l1, listOk x.f2 = true) ∧ ∀ x ∈ l1, x.f0.length ≤ 1000000 := by
  simp only [setOk, Bool.and_eq_true, decide_eq_true_eq, List.all_eq_true] at h
  exact ⟨h.1.1, h.1.2, h.2.1.1, h.2.1.2, h.2.2⟩

theorem looks_ev (l0 : List S102) (l1 : List S105) (n : Nat) (l3 : List Int) (hs : setOk l0 l1 = true) (hn : n < l0.length) : ∀ d i : Nat, i + d = l1.length →
    Ev (fun k => feats_Looks.l0 k l0 (n : Int) l3 l1 (l1.length : Int) (i : Int)) (looksAt l0 (l1.drop i) (n : Int) l3) := by
  obtain ⟨h0, h1, h2, h3, h4⟩ := setOk_0 hs
  intro d
  induction d with
  | zero =>
    intro i hi
    rw [List.drop_of_length_le (by omega)]
    refine Ev.step (fun k => by rw [feats_Looks.l0, if_neg (by omega), if_pos (by omega), if_pos (by omega), rd_getT102 hn, clone_now (listOk_le (h1 _ (List.getElem_mem hn))), Option.bind_some]) ?_
    simp only [looksAt, List.find?_nil, rd_getT102 hn]
    exact Ev.now _
  | succ d ih =>
    intro i hi
    have hlt : i < l1.length := by omega
    have hd : l1.drop i = l1[i] :: l1.drop (i + 1) := List.drop_eq_getElem_cons hlt
    have hr := ih (i + 1) (by omega)
    have hw : wrap64 ((i : Int) + 1) = ((i + 1 : Nat) : Int) := by rw [wrapOk _ (by omega) (by omega)]; omega
    by_cases e : l1[i].f1 = (n : Int)
    · have hh := holdsF_ev l1[i].f0 l3 (by have := h4 _ (List.getElem_mem hlt); omega)
      refine Ev.step (fun k => by rw [feats_Looks.l0, if_pos (by omega), if_pos (by omega), if_pos (by omega), rd_getT105 hlt, if_pos e]) ?_
      refine Ev.bind hh ?_
      cases hb : holdsB l1[i].f0 l3 with
      | true =>
        simp only [if_true]
        rw [clone_now (listOk_le (h3 _ (List.getElem_mem hlt))), Option.bind_some]
        rw [show looksAt l0 (l1.drop i) (n : Int) l3 = l1[i].f2 by rw [hd]; exact looksAt_hit (by simp [swapB, e, hb])]
        exact Ev.now _
      | false =>
        simp only [Bool.false_eq_true, if_false]
        rw [hw, show looksAt l0 (l1.drop i) (n : Int) l3 = looksAt l0 (l1.drop (i + 1)) (n : Int) l3 by rw [hd]; exact looksAt_miss (by simp [swapB, e, hb])]
        exact hr
    · refine Ev.step (fun k => by rw [feats_Looks.l0, if_pos (by omega), if_pos (by omega), if_pos (by omega), rd_getT105 hlt, if_neg e, hw]) ?_
      rw [show looksAt l0 (l1.drop i) (n : Int) l3 = looksAt l0 (l1.drop (i + 1)) (n : Int) l3 by rw [hd]; exact looksAt_miss (by simp [swapB, e])]
      exact hr
theorem looksF_ev (l0 : List S102) (l1 : List S105) (n : Int) (l3 : List Int) (hs : setOk l0 l1 = true) : Ev (fun k => feats_Looks.f k l0 l1 n l3) (looksP l0 l1 n l3) := by
  unfold feats_Looks.f looksP
  by_cases h0 : n < 0
  · simp only [if_pos h0]
    exact Ev.step (fun k => by rw [feats_Looks.j0, if_pos rfl]) (Ev.now _)
  · simp only [if_neg h0]
    by_cases h1 : n ≥ (l0.length : Int)
    · simp only [if_pos h1]
      exact Ev.step (fun k => by rw [feats_Looks.j0, if_pos (by simpa using h1)]) (Ev.now _)
    · simp only [if_neg h1]
      obtain ⟨m, rfl⟩ := Int.eq_ofNat_of_zero_le (show 0 ≤ n by omega)
      have h := looks_ev l0 l1 m l3 hs (by omega) l1.length 0 (by omega)
      rw [List.drop_zero] at h
      exact Ev.step (fun k => by rw [feats_Looks.j0, if_neg (by simpa using h1)]; rfl) h
theorem looksP_ok {l0 : List S102} {l1 : List S105} {n : Int} {l3 : List Int} (hs : setOk l0 l1 = true) : listOk (looksP l0 l1 n l3) = true := by
  obtain ⟨h0, h1, h2, h3, h4⟩ := setOk_0 hs
  unfold looksP
  split
  · rfl
  · split
    · rfl
    · unfold looksAt
      split
      · rename_i s hf
        exact h3 s (List.mem_of_find?_eq_some hf)
      · obtain ⟨m, rfl⟩ := Int.eq_ofNat_of_zero_le (show 0 ≤ n by omega)
        have hm : m < l0.length := by omega
        rw [rd_getT102 hm]
        exact h1 _ (List.getElem_mem hm)

/-! The numbers that are chosen. -/
def keysAt (l0 : List S102) (l1 : List S105) (l2 : List Int) (l3 : List ByteArray) (i : Nat) : List Int := if hasB l3 (rd_T102 l0 (i : Int)).f0 then looksP l0 l1 (i : Int) l2 else []
def keysTo (l0 : List S102) (l1 : List S105) (l2 : List Int) (l3 : List ByteArray) : Nat → List Int
  | 0 => []
  | i + 1 => keysTo l0 l1 l2 l3 i ++ keysAt l0 l1 l2 l3 i
def leI (x y : Int) : Bool := decide (x ≤ y)
def dedupI : List Int → List Int
  | [] => []
  | x :: l => if x ∈ dedupI l then dedupI l else x :: dedupI l
theorem mem_dedupI (x : Int) : ∀ l : List Int, x ∈ dedupI l ↔ x ∈ l
  | [] => Iff.rfl
  | y :: l => by
    have ih := mem_dedupI x l
    unfold dedupI
    split
    · rename_i h
      rw [ih, List.mem_cons]
      refine ⟨.inr, fun h2 => ?_⟩
      rcases h2 with rfl | h2
      · exact ih.1 h
      · exact h2
    · rw [List.mem_cons, List.mem_cons, ih]
theorem nodup_dedupI : ∀ l : List Int, (dedupI l).Nodup
  | [] => List.nodup_nil
  | y :: l => by
    unfold dedupI
    split
    · exact nodup_dedupI l
    · rename_i h
      exact List.nodup_cons.2 ⟨h, nodup_dedupI l⟩
def sortU (l : List Int) : List Int := (dedupI l).mergeSort leI
theorem keysAt_ok {l0 : List S102} {l1 : List S105} {l2 : List Int} {l3 : List ByteArray} {i : Nat} (hs : setOk l0 l1 = true) : listOk (keysAt l0 l1 l2 l3 i) = true := by
  unfold keysAt
  split
  · exact looksP_ok hs
  · rfl
theorem keysTo_len {l0 : List S102} {l1 : List S105} {l2 : List Int} {l3 : List ByteArray} (hs : setOk l0 l1 = true) : ∀ i, (keysTo l0 l1 l2 l3 i).length ≤ i * 1000000
  | 0 => by simp [keysTo]
  | i + 1 => by
    have h1 := keysTo_len hs (l2 := l2) (l3 := l3) i
    have h2 := listOk_le (keysAt_ok hs (l2 := l2) (l3 := l3) (i := i))
    rw [keysTo, List.length_append]; omega
theorem keysTo_in {l0 : List S102} {l1 : List S105} {l2 : List Int} {l3 : List ByteArray} (hs : setOk l0 l1 = true) : ∀ i, ∀ x ∈ keysTo l0 l1 l2 l3 i, in64 x = true
  | 0 => by simp [keysTo]
  | i + 1 => by
    intro x hx
    rw [keysTo, List.mem_append] at hx
    rcases hx with hx | hx
    · exact keysTo_in hs i x hx
    · have h2 := keysAt_ok hs (l2 := l2) (l3 := l3) (i := i)
      simp only [listOk, Bool.and_eq_true, List.all_eq_true] at h2
      exact h2.2 x hx
def feats_Chosen.f (l0 : List S102) (l1 : List S105) (l2 : List Int) (l3 : List ByteArray) : Option (List Int) := if setOk l0 l1 = true then some (sortU (keysTo l0 l1 l2 l3 l0.length)) else none

theorem leI_total (a b : Int) : (leI a b || leI b a) = true := by simp [leI]; omega
theorem leI_trans (a b c : Int) (h1 : leI a b = true) (h2 : leI b c = true) : leI a c = true := by simp [leI] at *; omega
theorem sorted_unique : ∀ {l m : List Int}, l.Perm m → l.Pairwise (fun a b => leI a b = true) → m.Pairwise (fun a b => leI a b = true) → l = m
  | [], m, hp, _, _ => (List.nil_perm.1 hp).symm
  | x :: l, m, hp, h1, h2 => by
    cases m with
    | nil => simp at hp
    | cons y m =>
      have hxy : x = y := by
        have hx : x ∈ y :: m := hp.subset (by simp)
        have hy : y ∈ x :: l := hp.symm.subset (by simp)
        have a1 : leI y x = true := by
          rcases List.mem_cons.1 hx with rfl | hx
          · simp [leI]
          · exact (List.pairwise_cons.1 h2).1 x hx
        have a2 : leI x y = true := by
          rcases List.mem_cons.1 hy with rfl | hy
          · simp [leI]
          · exact (List.pairwise_cons.1 h1).1 y hy
        simp [leI] at a1 a2; omega
      subst hxy
      rw [sorted_unique ((List.perm_cons x).1 hp) (List.pairwise_cons.1 h1).2 (List.pairwise_cons.1 h2).2]
theorem sortU_of {ss l : List Int} (hn : ss.Nodup) (hm : ∀ x, x ∈ ss ↔ x ∈ l) : ss.mergeSort leI = sortU l := by
  have hp : ss.Perm (dedupI l) := by
    refine (List.perm_ext_iff_of_nodup hn (nodup_dedupI l)).2 fun x => ?_
    rw [hm x, mem_dedupI]
  refine sorted_unique ((List.mergeSort_perm ss leI).trans (hp.trans (List.mergeSort_perm _ leI).symm)) (List.pairwise_mergeSort leI_trans leI_total ss) (List.pairwise_mergeSort leI_trans leI_total _)
end Go.Proofs.Ytmppdgjnibamlab.Pag
