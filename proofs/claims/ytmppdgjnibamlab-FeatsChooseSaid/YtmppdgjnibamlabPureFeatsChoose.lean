/- FeatsChoose: plain. -/
import Derived.Test.YtmppdgjnibamlabPFex6
import Derived.Test.YtmppdgjnibamlabFeF
namespace Go.Proofs.Ytmppdgjnibamlab.Pure
open Go.RowKit Go.Proofs.Ytmppdgjnibamlab.PFe Go.Proofs.YtmppdgjnibamlabW.PrintWords Go.Proofs.Ytmppdgjnibamlab.Pag
set_option linter.unusedVariables false
set_option linter.unusedSimpArgs false

/-! The reference's Holds, Looks, has, put, Chosen. -/
theorem rholds_ev (c : List S58) (l : List Int) (hc : c.length ≤ 1000000000000000) : ∀ d i : Nat, i + d = c.length → Ev (fun k => foundryref22_Holds.l0 k c l (i : Int)) (holdsB (c.drop i) l) := by
  intro d
  induction d with
  | zero =>
    intro i hi
    rw [List.drop_of_length_le (by omega)]
    exact Ev.step (fun k => by rw [foundryref22_Holds.l0, if_neg (by omega)]) (Ev.now true)
  | succ d ih =>
    intro i hi
    have hlt : i < c.length := by omega
    have hd : c.drop i = c[i] :: c.drop (i + 1) := List.drop_eq_getElem_cons hlt
    have hr := ih (i + 1) (by omega)
    have hw : wrap64 ((i : Int) + 1) = ((i + 1 : Nat) : Int) := by rw [wrapOk _ (by omega) (by omega)]; omega
    have hcons : holdsB (c.drop i) l = (condB l c[i] && holdsB (c.drop (i + 1)) l) := by rw [hd]; rfl
    rw [hcons]
    have no : condB l c[i] = false → Ev (fun _ => some false) (condB l c[i] && holdsB (c.drop (i + 1)) l) := fun h => by rw [h]; exact Ev.now _
    by_cases h0 : c[i].f0 < 0
    · refine Ev.step (fun k => by rw [foundryref22_Holds.l0, if_pos (by omega), if_pos (by omega), rd_getT58 hlt, if_pos h0]) (no ?_)
      simp [condB]; omega
    · by_cases h1 : c[i].f0 < (l.length : Int)
      · by_cases h2 : rd l c[i].f0 < c[i].f1
        · refine Ev.step (fun k => by rw [foundryref22_Holds.l0, if_pos (by omega), if_pos (by omega), rd_getT58 hlt, if_neg h0, if_pos h1, if_pos (by omega), if_pos h2]) (no ?_)
          simp [condB, coordP, h1]; omega
        · by_cases h3 : rd l c[i].f0 > c[i].f2
          · refine Ev.step (fun k => by rw [foundryref22_Holds.l0, if_pos (by omega), if_pos (by omega), rd_getT58 hlt, if_neg h0, if_pos h1, if_pos (by omega), if_neg h2, if_pos h3]) (no ?_)
            simp [condB, coordP, h1]; omega
          · refine Ev.step (fun k => by rw [foundryref22_Holds.l0, if_pos (by omega), if_pos (by omega), rd_getT58 hlt, if_neg h0, if_pos h1, if_pos (by omega), if_neg h2, if_neg h3, hw]) ?_
            rw [show condB l c[i] = true by simp [condB, coordP, h1]; omega, Bool.true_and]
            exact hr
      · by_cases h2 : (0 : Int) < c[i].f1
        · refine Ev.step (fun k => by rw [foundryref22_Holds.l0, if_pos (by omega), if_pos (by omega), rd_getT58 hlt, if_neg h0, if_neg h1, if_pos h2]) (no ?_)
          simp [condB, coordP, h1]; omega
        · by_cases h3 : (0 : Int) > c[i].f2
          · refine Ev.step (fun k => by rw [foundryref22_Holds.l0, if_pos (by omega), if_pos (by omega), rd_getT58 hlt, if_neg h0, if_neg h1, if_neg h2, if_pos h3]) (no ?_)
            simp [condB, coordP, h1]; omega
          · refine Ev.step (fun k => by rw [foundryref22_Holds.l0, if_pos (by omega), if_pos (by omega), rd_getT58 hlt, if_neg h0, if_neg h1, if_neg h2, if_neg h3, hw]) ?_
            rw [show condB l c[i] = true by simp [condB, coordP, h1]; omega, Bool.true_and]
            exact hr
theorem rlooks_ev (l0 : List S102) (l1 : List S105) (n : Nat) (l3 : List Int) (hs : setOk l0 l1 = true) (hn : n < l0.length) : ∀ d i : Nat, i + d = l1.length →
    Ev (fun k => foundryref22_Looks.l0 k l0 l1 (n : Int) l3 [] (i : Int)) (looksAt l0 (l1.drop i) (n : Int) l3) := by
  obtain ⟨h0, h1, h2, h3, h4⟩ := setOk_0 hs
  intro d
  induction d with
  | zero =>
    intro i hi
    rw [List.drop_of_length_le (by omega)]
    have hb := listOk_le (h1 _ (List.getElem_mem hn))
    refine Ev.step (fun k => by rw [foundryref22_Looks.l0, if_neg (by omega), if_pos (by omega), if_pos (by omega), rd_getT102 hn, if_pos (by simp; omega), List.nil_append]) ?_
    simp only [looksAt, List.find?_nil, rd_getT102 hn]
    exact Ev.now _
  | succ d ih =>
    intro i hi
    have hlt : i < l1.length := by omega
    have hd : l1.drop i = l1[i] :: l1.drop (i + 1) := List.drop_eq_getElem_cons hlt
    have hr := ih (i + 1) (by omega)
    have hw : wrap64 ((i : Int) + 1) = ((i + 1 : Nat) : Int) := by rw [wrapOk _ (by omega) (by omega)]; omega
    by_cases e : l1[i].f1 = (n : Int)
    · have hh := rholds_ev l1[i].f0 l3 (by have := h4 _ (List.getElem_mem hlt); omega) l1[i].f0.length 0 (by omega)
      rw [List.drop_zero] at hh
      refine Ev.step (fun k => by rw [foundryref22_Looks.l0, if_pos (by omega), if_pos (by omega), rd_getT105 hlt, if_pos e]) ?_
      unfold foundryref22_Holds.f
      refine Ev.bind hh ?_
      cases hb : holdsB l1[i].f0 l3 with
      | true =>
        have hbl := listOk_le (h3 _ (List.getElem_mem hlt))
        simp only [if_true, List.nil_append, List.length_nil, Nat.zero_add]
        rw [if_pos (by omega), show looksAt l0 (l1.drop i) (n : Int) l3 = l1[i].f2 by rw [hd]; exact looksAt_hit (by simp [swapB, e, hb])]
        exact Ev.now _
      | false =>
        simp only [Bool.false_eq_true, if_false]
        rw [hw, show looksAt l0 (l1.drop i) (n : Int) l3 = looksAt l0 (l1.drop (i + 1)) (n : Int) l3 by rw [hd]; exact looksAt_miss (by simp [swapB, e, hb])]
        exact hr
    · refine Ev.step (fun k => by rw [foundryref22_Looks.l0, if_pos (by omega), if_pos (by omega), rd_getT105 hlt, if_neg e, hw]) ?_
      rw [show looksAt l0 (l1.drop i) (n : Int) l3 = looksAt l0 (l1.drop (i + 1)) (n : Int) l3 by rw [hd]; exact looksAt_miss (by simp [swapB, e])]
      exact hr
theorem rlooksF_ev (l0 : List S102) (l1 : List S105) (n : Int) (l3 : List Int) (hs : setOk l0 l1 = true) : Ev (fun k => foundryref22_Looks.f k l0 l1 n l3) (looksP l0 l1 n l3) := by
  unfold foundryref22_Looks.f looksP
  by_cases h0 : n < 0
  · simp only [if_pos h0]
    exact Ev.step (fun k => by rw [foundryref22_Looks.j0, if_pos rfl]) (Ev.now _)
  · simp only [if_neg h0]
    by_cases h1 : n ≥ (l0.length : Int)
    · simp only [if_pos h1]
      exact Ev.step (fun k => by rw [foundryref22_Looks.j0, if_pos (by simpa using h1)]) (Ev.now _)
    · simp only [if_neg h1]
      obtain ⟨m, rfl⟩ := Int.eq_ofNat_of_zero_le (show 0 ≤ n by omega)
      have h := rlooks_ev l0 l1 m l3 hs (by omega) l1.length 0 (by omega)
      rw [List.drop_zero] at h
      exact Ev.step (fun k => by rw [foundryref22_Looks.j0, if_neg (by simpa using h1)]; rfl) h
theorem has_ev (l : List ByteArray) (s : ByteArray) (hl : l.length ≤ 1000000000000000) : ∀ d i : Nat, i + d = l.length → Ev (fun k => foundryref22_has.l0 k l s (i : Int)) (hasB (l.drop i) s) := by
  intro d
  induction d with
  | zero =>
    intro i hi
    rw [List.drop_of_length_le (by omega)]
    exact Ev.step (fun k => by rw [foundryref22_has.l0, if_neg (by omega)]) (Ev.now false)
  | succ d ih =>
    intro i hi
    have hlt : i < l.length := by omega
    have hd : l.drop i = l[i] :: l.drop (i + 1) := List.drop_eq_getElem_cons hlt
    rw [hd, hasB_cons]
    by_cases e : s.toList = l[i].toList
    · rw [decide_eq_true e, Bool.true_or]
      exact Ev.step (fun k => by rw [foundryref22_has.l0, if_pos (by omega), if_pos (by omega), rd_getStr hlt, if_pos e.symm]) (Ev.now _)
    · rw [decide_eq_false e, Bool.false_or]
      exact Ev.step (fun k => by rw [foundryref22_has.l0, if_pos (by omega), if_pos (by omega), rd_getStr hlt, if_neg (fun h => e h.symm), wrapOk _ (by omega) (by omega), show ((i : Int) + 1) = ((i + 1 : Nat) : Int) by omega]) (ih (i + 1) (by omega))

def putL (x : Int) : List Int → List Int
  | [] => [x]
  | y :: l => if y < x then y :: putL x l else if y = x then x :: l else x :: y :: l
theorem putL_len (x : Int) : ∀ l, (putL x l).length ≤ l.length + 1
  | [] => by simp [putL]
  | y :: l => by
    have := putL_len x l
    unfold putL
    split
    · simp; omega
    · split <;> simp
theorem mem_putL (x z : Int) : ∀ l, z ∈ putL x l ↔ z = x ∨ z ∈ l
  | [] => by simp [putL]
  | y :: l => by
    have ih := mem_putL x z l
    unfold putL
    split
    · rw [List.mem_cons, ih, List.mem_cons]
      constructor <;> (intro h; rcases h with h | h | h <;> simp [h])
    · split
      · rename_i e
        subst e
        simp
      · simp
theorem putL_rise (x : Int) : ∀ l : List Int, l.Pairwise (· < ·) → (putL x l).Pairwise (· < ·)
  | [], _ => by simp [putL]
  | y :: l, h => by
    obtain ⟨h1, h2⟩ := List.pairwise_cons.1 h
    unfold putL
    split
    · rename_i hlt
      refine List.pairwise_cons.2 ⟨fun z hz => ?_, putL_rise x l h2⟩
      rcases (mem_putL x z l).1 hz with rfl | hz
      · exact hlt
      · exact h1 z hz
    · split
      · rename_i e
        subst e
        exact h
      · refine List.pairwise_cons.2 ⟨fun z hz => ?_, h⟩
        rcases List.mem_cons.1 hz with rfl | hz
        · omega
        · have := h1 z hz; omega
theorem rd_get (l : List Int) {i : Nat} (h : i < l.length) : rd l (i : Int) = l[i] := by simp [rd, h]
theorem put_ev (l : List Int) (x : Int) (hl : l.length ≤ 1000000000000) : ∀ d i : Nat, i + d = l.length → ∀ acc : List Int, acc.length = i → Ev (fun k => foundryref22_put.l0 k l x acc (i : Int)) (acc ++ putL x (l.drop i)) := by
  intro d
  induction d with
  | zero =>
    intro i hi acc ha
    rw [List.drop_of_length_le (by omega)]
    refine Ev.step (fun k => by rw [foundryref22_put.l0, if_neg (by omega), if_pos (by omega), Option.bind_some]) ?_
    refine Ev.congr (f := fun _ => some (acc ++ [x])) (fun k => ?_) (Ev.now _)
    have e : l.drop i = [] := List.drop_of_length_le (by omega)
    rw [if_pos (by omega), if_pos (by omega), Int.toNat_natCast, if_pos (by rw [e]; simp; omega), e, List.append_nil]
  | succ d ih =>
    intro i hi acc ha
    have hlt : i < l.length := by omega
    have hd : l.drop i = l[i] :: l.drop (i + 1) := List.drop_eq_getElem_cons hlt
    have hw : wrap64 ((i : Int) + 1) = ((i + 1 : Nat) : Int) := by rw [wrapOk _ (by omega) (by omega)]; omega
    by_cases h1 : l[i] < x
    · have h := ih (i + 1) (by omega) (acc ++ [l[i]]) (by simp [ha])
      rw [hd, show putL x (l[i] :: l.drop (i + 1)) = l[i] :: putL x (l.drop (i + 1)) by rw [putL, if_pos h1]]
      rw [List.append_assoc] at h
      exact Ev.step (fun k => by rw [foundryref22_put.l0, if_pos (by omega), if_pos (by omega), rd_get l hlt, if_pos h1, if_pos (by omega), hw]) h
    · by_cases h2 : l[i] = x
      · rw [hd, show putL x (l[i] :: l.drop (i + 1)) = x :: l.drop (i + 1) by rw [putL, if_neg h1, if_pos h2]]
        refine Ev.step (fun k => by rw [foundryref22_put.l0, if_pos (by omega), if_pos (by omega), rd_get l hlt, if_neg h1, if_pos (by omega), Option.bind_some, if_pos h2, hw, if_pos (by omega), if_pos (by omega), Int.toNat_natCast, if_pos (by simp; omega)]) ?_
        rw [List.append_assoc]
        exact Ev.now _
      · rw [hd, show putL x (l[i] :: l.drop (i + 1)) = x :: l[i] :: l.drop (i + 1) by rw [putL, if_neg h1, if_neg h2], ← hd]
        refine Ev.step (fun k => by rw [foundryref22_put.l0, if_pos (by omega), if_pos (by omega), rd_get l hlt, if_neg h1, if_pos (by omega), Option.bind_some, if_neg h2, if_pos (by omega), Int.toNat_natCast, if_pos (by simp; omega)]) ?_
        rw [List.append_assoc]
        exact Ev.now _
theorem putF_ev (l : List Int) (x : Int) (hl : l.length ≤ 1000000000000) : Ev (fun k => foundryref22_put.f k l x) (putL x l) := by
  have h := put_ev l x hl l.length 0 (by omega) [] rfl
  rw [List.drop_zero, List.nil_append] at h
  exact h

def putAll (acc : List Int) (l : List Int) : List Int := l.foldl (fun a x => putL x a) acc
theorem putAll_len : ∀ (l acc : List Int), (putAll acc l).length ≤ acc.length + l.length
  | [], acc => by simp [putAll]
  | x :: l, acc => by
    have h1 := putAll_len l (putL x acc)
    have h2 := putL_len x acc
    show (putAll (putL x acc) l).length ≤ _
    simp; omega
theorem putAll_rise : ∀ (l acc : List Int), acc.Pairwise (· < ·) → (putAll acc l).Pairwise (· < ·)
  | [], acc, h => h
  | x :: l, acc, h => putAll_rise l (putL x acc) (putL_rise x acc h)
theorem mem_putAll (z : Int) : ∀ (l acc : List Int), z ∈ putAll acc l ↔ z ∈ acc ∨ z ∈ l
  | [], acc => by simp [putAll]
  | x :: l, acc => by
    have h := mem_putAll z l (putL x acc)
    show z ∈ putAll (putL x acc) l ↔ _
    rw [h, mem_putL, List.mem_cons]
    constructor
    · rintro ((h | h) | h)
      · exact .inr (.inl h)
      · exact .inl h
      · exact .inr (.inr h)
    · rintro (h | h | h)
      · exact .inl (.inr h)
      · exact .inl (.inl h)
      · exact .inr h
theorem putAll_app (acc l m : List Int) : putAll (putAll acc l) m = putAll acc (l ++ m) := by simp [putAll]

theorem chosen_ev (l0 : List S102) (l1 : List S105) (l2 : List Int) (l3 : List ByteArray) (hs : setOk l0 l1 = true) (h0 : l0.length ≤ 300) (h3 : l3.length ≤ 50) : ∀ d i : Nat, i + d = l0.length →
    Ev (fun k => foundryref22_Chosen.l0 k l0 l1 l2 l3 (putAll [] (keysTo l0 l1 l2 l3 i)) (i : Int)) (putAll [] (keysTo l0 l1 l2 l3 l0.length)) := by
  intro d
  induction d with
  | zero =>
    intro i hi
    rw [show l0.length = i by omega]
    exact Ev.step (fun k => by rw [foundryref22_Chosen.l0, if_neg (by omega)]) (Ev.now _)
  | succ d ih =>
    intro i hi
    have hlt : i < l0.length := by omega
    have hr := ih (i + 1) (by omega)
    have hw : wrap64 ((i : Int) + 1) = ((i + 1 : Nat) : Int) := by rw [wrapOk _ (by omega) (by omega)]; omega
    have hh := has_ev l3 (rd_T102 l0 (i : Int)).f0 (by omega) l3.length 0 (by omega)
    rw [List.drop_zero] at hh
    refine Ev.step (fun k => by rw [foundryref22_Chosen.l0, if_pos (by omega), if_pos (by omega)]) ?_
    unfold foundryref22_has.f
    refine Ev.bind hh ?_
    cases hb : hasB l3 (rd_T102 l0 (i : Int)).f0 with
    | false =>
      simp only [Bool.false_eq_true, if_false]
      rw [hw]
      rw [keysTo, show keysAt l0 l1 l2 l3 i = [] by unfold keysAt; rw [if_neg (by rw [hb]; simp)], List.append_nil] at hr
      exact hr
    | true =>
      simp only [if_true]
      refine Ev.bind (rlooksF_ev l0 l1 (i : Int) l2 hs) ?_
      have hat : keysAt l0 l1 l2 l3 i = looksP l0 l1 (i : Int) l2 := by unfold keysAt; rw [if_pos hb]
      have hok := listOk_le (looksP_ok (n := (i : Int)) (l3 := l2) hs)
      have hkl := keysTo_len hs (l2 := l2) (l3 := l3) i
      rw [keysTo, hat] at hr
      generalize looksP l0 l1 (i : Int) l2 = ls at hok hr
      have inner : ∀ e m : Nat, m + e = ls.length → Ev (fun k => foundryref22_Chosen.l1 k l0 l1 l2 l3 (putAll [] (keysTo l0 l1 l2 l3 i ++ ls.take m)) (i : Int) ls (m : Int)) (putAll [] (keysTo l0 l1 l2 l3 l0.length)) := by
        intro e
        induction e with
        | zero =>
          intro m hm
          rw [List.take_of_length_le (by omega)]
          exact Ev.step (fun k => by rw [foundryref22_Chosen.l1, if_neg (by omega), hw]) hr
        | succ e ih2 =>
          intro m hm
          have hml : m < ls.length := by omega
          have hw2 : wrap64 ((m : Int) + 1) = ((m + 1 : Nat) : Int) := by rw [wrapOk _ (by omega) (by omega)]; omega
          refine Ev.step (fun k => by rw [foundryref22_Chosen.l1, if_pos (by omega), if_pos (by omega), rd_get ls hml, hw2]) ?_
          refine Ev.bind (putF_ev _ _ (by
            have h1 := putAll_len (keysTo l0 l1 l2 l3 i ++ ls.take m) []
            rw [List.length_append, List.length_take] at h1
            simp only [List.length_nil] at h1
            have : i * 1000000 ≤ 300 * 1000000 := Nat.mul_le_mul_right _ (by omega)
            omega)) ?_
          have e2 : putL ls[m] (putAll [] (keysTo l0 l1 l2 l3 i ++ ls.take m)) = putAll [] (keysTo l0 l1 l2 l3 i ++ ls.take (m + 1)) := by
            rw [List.take_succ_eq_append_getElem hml, ← List.append_assoc, ← putAll_app [] _ [ls[m]]]; rfl
          rw [e2]
          exact ih2 (m + 1) (by omega)
      have h := inner ls.length 0 (by omega)
      rw [List.take_zero, List.append_nil] at h
      exact h
theorem chosen_same (l0 : List S102) (l1 : List S105) (l2 : List Int) (l3 : List ByteArray) : putAll [] (keysTo l0 l1 l2 l3 l0.length) = sortU (keysTo l0 l1 l2 l3 l0.length) :=
  strict_unique (putAll_rise _ _ List.Pairwise.nil) fun x => by rw [mem_putAll]; simp

theorem choose_loop (l0 : List S102) (l1 : List S105) (u v : Int) (l2 : List Int) (l3 : List ByteArray) (hs : setOk l0 l1 = true) (h0 : l0.length ≤ 300) (h3 : l3.length ≤ 50) : ∀ d : Nat, ∀ n : Int, -1 ≤ n → n + (d : Int) = (l0.length : Int) + 1 →
    Ev (fun k => foundrylaw22_FeatsChoose.l0 k l2 l3 n l0 l1 u v) true := by
  intro d
  induction d with
  | zero =>
    intro n hn hd
    refine Ev.step (fun k => by rw [foundrylaw22_FeatsChoose.l0, if_neg (by omega), chosen_now hs, Option.bind_some]) ?_
    have hc := chosen_ev l0 l1 l2 l3 hs h0 h3 l0.length 0 (by omega)
    rw [chosen_same] at hc
    unfold foundryref22_Chosen.f
    refine Ev.bind hc ?_
    exact Ev.bind (same_ints _ (by have := keys_bound hs l2 l3; omega)) (Ev.now _)
  | succ d ih =>
    intro n hn hd
    refine Ev.step (fun k => by rw [foundrylaw22_FeatsChoose.l0, if_pos (by omega)]) ?_
    refine Ev.bind (looksF_ev l0 l1 n l2 hs) (Ev.bind (rlooksF_ev l0 l1 n l2 hs) (Ev.bind (same_ints _ (by have := listOk_le (looksP_ok (n := n) (l3 := l2) hs); omega)) ?_))
    simp only [if_true]
    rw [wrapOk _ (by omega) (by omega)]
    exact ih (n + 1) (by omega) (by omega)

theorem FeatsChoose (l0 : List S102) (l1 : List S105) (u v : Int) (l2 : List Int) (l3 : List ByteArray) {Q0 P1 P2 : Prop} (h : (l0.length * 40 ≤ 140737488351232 ∧ ∀ x ∈ l0, FeatIn x) ∧ (l1.length * 56 ≤ 140737488351232 ∧ ∀ x ∈ l1, SwapIn x) ∧ Q0) (h1 : P1) (h2 : l3.length * 16 ≤ 140737488351232 ∧ P2) : ∃ k, foundrylaw22_FeatsChoose.f k l0 l1 u v l2 l3 = some true := by
  refine Ev.rounds ?_
  unfold foundrylaw22_FeatsChoose.f
  simp only [awake22, Option.bind_some, if_true]
  obtain ⟨r, hev, hr⟩ := few_ev l0 l1 u v l2 ⟨h.1, h.2.1⟩
  refine Ev.bind hev ?_
  cases r with
  | false =>
    simp only [Bool.false_eq_true, if_false]
    exact Ev.step (fun k => by rw [foundrylaw22_FeatsChoose.j0, if_pos rfl, awake22, Option.bind_some]) (Ev.now _)
  | true =>
    obtain ⟨hs, g0, g1, g2⟩ := hr rfl
    simp only [if_true]
    by_cases a : (l3.length : Int) > 50
    · rw [decide_eq_true a]
      exact Ev.step (fun k => by rw [foundrylaw22_FeatsChoose.j0, if_pos rfl, awake22, Option.bind_some]) (Ev.now _)
    · rw [decide_eq_false a]
      exact Ev.step (fun k => by rw [foundrylaw22_FeatsChoose.j0, if_neg (by simp)]) (choose_loop l0 l1 u v l2 l3 hs g0 (by omega) (l0.length + 2) (-1) (by omega) (by omega))
end Go.Proofs.Ytmppdgjnibamlab.Pure
