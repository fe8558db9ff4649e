/- outline.Read of what outline.Write has written, whatever stands behind; of all bytes. Plain. -/
import Derived.Test.YtmppdgjnibamlabOlY
import Derived.Test.YtmppdgjnibamlabPOlx10
namespace Go.Proofs.Ytmppdgjnibamlab.Pag
open Go.RowKit Go.Proofs.Ytmppdgjnibamlab.POl Go.Proofs.YtmppdgjnibamlabW.PrintWords
set_option linter.unusedVariables false
set_option linter.unusedSimpArgs false

theorem sim_dx : ∀ (sts : List Stp) (G : List Int), Sim G (sts.map flagOf) → (∀ s ∈ sts, okS s = true) → DD 2 16 18 G (sts.map (fun s => s.1))
  | [], [], _, _ => trivial
  | [], g :: G, h, _ => h.elim
  | s :: r, [], h, _ => h.elim
  | s :: r, g :: G, h, ho => by
    have h1 := ho s (by simp)
    simp only [okS, Bool.and_eq_true, inF_iff] at h1
    refine ⟨⟨?_, h1.1.1, h1.1.2⟩, sim_dx r G h.2 (fun s hs => ho s (by simp [hs]))⟩
    rcases h.1 with e | e <;> rw [e]
    · exact (flag_bits s).2.2.2.1
    · exact (flag_bits3 s).2.2.2.2.1
theorem sim_dy : ∀ (sts : List Stp) (G : List Int), Sim G (sts.map flagOf) → (∀ s ∈ sts, okS s = true) → DD 4 32 36 G (sts.map (fun s => s.2.1))
  | [], [], _, _ => trivial
  | [], g :: G, h, _ => h.elim
  | s :: r, [], h, _ => h.elim
  | s :: r, g :: G, h, ho => by
    have h1 := ho s (by simp)
    simp only [okS, Bool.and_eq_true, inF_iff] at h1
    refine ⟨⟨?_, h1.2.1, h1.2.2⟩, sim_dy r G h.2 (fun s hs => ho s (by simp [hs]))⟩
    rcases h.1 with e | e <;> rw [e]
    · exact (flag_bits s).2.2.2.2.1
    · exact (flag_bits3 s).2.2.2.2.2
theorem stp_on : ∀ (l : List Pt) (a b : Int) (i : Nat) (h : i < (stp a b l).length) (h2 : i < l.length), ((stp a b l)[i]).2.2 = l[i].f2
  | [], _, _, i, h, h2 => by simp at h2
  | p :: r, a, b, 0, h, h2 => rfl
  | p :: r, a, b, i + 1, h, h2 => stp_on r p.f0 p.f1 i (by simpa [stp] using h) (by simpa using h2)
theorem ptP_rt {l : List Pt} {G : List Int} (hG : Sim G ((stp 0 0 l).map flagOf)) (i : Nat) (hi : i < l.length) : ptP G (l.map (fun p => p.f0)) (l.map (fun p => p.f1)) i = l[i] := by
  have hl := hG.len
  rw [List.length_map, stp_len] at hl
  have hs : i < (stp 0 0 l).length := by rw [stp_len]; exact hi
  have hon := stp_on l 0 0 i hs hi
  have hg := hG.get i (by omega) (by rw [List.length_map]; exact hs)
  rw [List.getElem_map] at hg
  have e0 : rd (l.map (fun p => p.f0)) (i : Int) = l[i].f0 := by simp [rd, hi]
  have e1 : rd (l.map (fun p => p.f1)) (i : Int) = l[i].f1 := by simp [rd, hi]
  have e2 : rd G (i : Int) = G[i]'(by omega) := by simp [rd, show i < G.length by omega]
  unfold ptP
  rw [e0, e1, e2]
  generalize l[i] = p at hon
  have hb := flag_bits3 ((stp 0 0 l)[i])
  have : ((Go.bits .and .i64 (G[i]'(by omega)) 1) != 0) = p.f2 := by
    rw [← hon]
    rcases hg with e | e <;> rw [e]
    · rw [hb.2.2.1]
      cases ((stp 0 0 l)[i]).2.2 <;> decide
    · rw [hb.2.2.2.1]
      cases ((stp 0 0 l)[i]).2.2 <;> decide
  rw [this]
theorem seg_rt {l : List Pt} {G xs ys : List Int} (h : ∀ i (hi : i < l.length), ptP G xs ys i = l[i]) (i n : Nat) (hin : i + n ≤ l.length) : seg G xs ys i n = (l.drop i).take n := by
  unfold seg
  apply List.ext_getElem
  · simp; omega
  · intro j h1 h2
    simp only [List.length_map, List.length_range'] at h1
    simp only [List.getElem_map, List.getElem_range', List.getElem_take, List.getElem_drop, Nat.one_mul]
    exact h (i + j) (by omega)
theorem segs_rt {l : List Pt} {G xs ys : List Int} (h : ∀ i (hi : i < l.length), ptP G xs ys i = l[i]) : ∀ (r : List (List Pt)) (i : Nat), l.drop i = r.flatten → i ≤ l.length → (∀ c ∈ r, 1 ≤ c.length) → segs G xs ys i (endsO r ((i : Int) - 1)) = r
  | [], _, _, _, _ => rfl
  | c :: r, i, hd, hi, hc => by
    have h1 := hc c (by simp)
    rw [List.flatten_cons] at hd
    have hlen : c.length + r.flatten.length = l.length - i := by rw [← List.length_append, ← hd, List.length_drop]
    rw [endsO, segs, show ((i : Int) - 1 + (c.length : Int)).toNat + 1 - i = c.length by omega, seg_rt h i c.length (by omega), hd, List.take_left]
    have e : ((i : Int) - 1 + (c.length : Int)).toNat + 1 = i + c.length := by omega
    rw [e, show (i : Int) - 1 + (c.length : Int) = ((i + c.length : Nat) : Int) - 1 by omega]
    rw [segs_rt h r (i + c.length) (by rw [← List.drop_drop, hd, List.drop_left]) (by omega) (fun c hx => hc c (by simp [hx]))]
theorem endsO_in : ∀ (r : List (List Pt)) (q : Nat), (∀ c ∈ r, 1 ≤ c.length) → ∀ e ∈ endsO r ((q : Int) - 1), (q : Int) ≤ e ∧ e < ((q + r.flatten.length : Nat) : Int)
  | [], _, _, e, he => by simp [endsO] at he
  | c :: r, q, hc, e, he => by
    have h1 := hc c (by simp)
    rw [List.flatten_cons, List.length_append]
    rcases List.mem_cons.1 he with rfl | he
    · omega
    · rw [show (q : Int) - 1 + (c.length : Int) = ((q + c.length : Nat) : Int) - 1 by omega] at he
      have := endsO_in r (q + c.length) (fun c hx => hc c (by simp [hx])) e he
      omega
theorem w22 {i : Nat} (h : i ≤ 10) : wrap64 (2 + wrap64 (2 * (i : Int))) = 2 + 2 * (i : Int) := by unfold wrap64; omega
theorem wx1 {x : Int} (h0 : 0 ≤ x) (h1 : x < 80) : wrap64 (x + 1) = x + 1 := by unfold wrap64; omega
theorem l0_rt {b : List Int} (hb : b.all byteB = true) (m n : Nat) (hm : m ≤ 10) (hn : n ≤ 80) (a : Int) (R : List (List Pt) × List Pr) : ∀ (r : List (List Pt)) (i q : Nat) (acc P Q : List Int), b = P ++ ((endsO r ((q : Int) - 1)).flatMap (fun e => be e 2) ++ Q) → P.length = 2 + 2 * i → i + r.length = m → acc.length = i → q + r.flatten.length = n → (∀ c ∈ r, 1 ≤ c.length) →
    Ev (fun k => outline_contours.l1 k b (acc ++ endsO r ((q : Int) - 1)) (n : Int) a []) R → Ev (fun k => outline_contours.l0 k b acc (q : Int) a (m : Int) (i : Int)) R := by
  intro r
  induction r with
  | nil =>
    intro i q acc P Q hbe hP hi hac hq hc h
    rw [endsO, List.append_nil] at h
    simp only [List.length_nil, List.flatten_nil] at hi hq
    refine Ev.step (fun k => by rw [outline_contours.l0, if_neg (by omega)]) ?_
    rw [show (q : Int) = (n : Int) by omega]
    exact h
  | cons c r ih =>
    intro i q acc P Q hbe hP hi hac hq hc h
    have h1 := hc c (by simp)
    rw [List.flatten_cons, List.length_append] at hq
    rw [List.length_cons] at hi
    rw [endsO, List.flatMap_cons, List.append_assoc] at hbe
    rw [endsO] at h
    have e : (q : Int) - 1 + (c.length : Int) = ((q + c.length : Nat) : Int) - 1 := by omega
    obtain ⟨x, hx⟩ : ∃ x, (q : Int) - 1 + (c.length : Int) = x := ⟨_, rfl⟩
    rw [hx] at hbe h e
    have c0 : 0 ≤ x := by omega
    have c1 : x < 80 := by omega
    have e2 : x + 1 = ((q + c.length : Nat) : Int) := by omega
    have W1 := Aside0.mk (w22 (i := i) (by omega))
    have hf := field2 (b := b) (P := P) (a := 2 + 2 * (i : Int)) hbe (by omega)
    rw [show x % 65536 = x by omega] at hf
    have W2 := Aside0.mk ((wx1 c0 c1).trans e2)
    have hn2 := ih (i + 1) (q + c.length) (acc ++ [x]) (P ++ be x 2) Q (by rw [hbe, ← e]; simp only [List.append_assoc]) (by rw [List.length_append, len_be2]; omega) (by omega) (by rw [List.length_append, hac]; rfl) (by omega) (fun c hx => hc c (List.mem_cons_of_mem _ hx)) (by rw [← e, List.append_assoc, List.singleton_append]; exact h)
    have c2 : ¬ (x < (q : Int)) := by omega
    have c3 : (i : Int) < (m : Int) := by omega
    have c4 : acc.length < 17592186044416 := by omega
    have c5 : i ≤ 9000000000000000 := by omega
    clear hx e hbe hP
    exact Ev.step (fun k => by rw [outline_contours.l0, if_pos c3, W1.out, u16_eq hb, Option.bind_some, hf, if_neg c2, if_neg (by simp only; omega), if_pos c4, W2.out, wnat c5]) hn2
/-- THE ROUND TRIP, contours. -/
theorem contours_rt {b rest : List Int} (hb : b.all byteB = true) (cs : List (List Pt)) (hf : FmO cs []) (hok : (stp 0 0 cs.flatten).all okS = true) (hbe : b = wrC cs ++ rest) : Ev (fun k => outline_contours.f k b (cs.length : Int)) (cs, []) := by
  have hne : ∀ c ∈ cs, 1 ≤ c.length := fun c hc => (hf.ne c hc).1
  have hm := hf.con
  have hn := hf.pts
  obtain ⟨l, hl⟩ : ∃ l, cs.flatten = l := ⟨_, rfl⟩
  have hend := endsO_in cs 0 hne
  simp only [Nat.zero_add, show ((0 : Nat) : Int) - 1 = -1 by decide] at hend
  unfold wrC at hbe
  rw [hl] at hn hok hbe hend
  have hel := endsO_len cs (-1)
  have hfl : ∀ f ∈ (stp 0 0 l).map flagOf, Fl f := fun f hf => by
    obtain ⟨s, _, rfl⟩ := List.mem_map.1 hf
    exact Fl_of s
  have hsl : ((stp 0 0 l).map flagOf).length = l.length := by rw [List.length_map, stp_len]
  have hebl : ((endsO cs (-1)).flatMap (fun e => be e 2)).length = 2 * cs.length := by
    have : ∀ l : List Int, (l.flatMap (fun e => be e 2)).length = 2 * l.length := by
      intro l
      induction l with
      | nil => rfl
      | cons x r ih => rw [List.flatMap_cons, List.length_append, len_be2, ih, List.length_cons]; omega
    rw [this, hel]
  obtain ⟨DX, hDX⟩ : ∃ D, ((stp 0 0 l).map (fun s => s.1)).flatMap dif = D := ⟨_, rfl⟩
  obtain ⟨DY, hDY⟩ : ∃ D, ((stp 0 0 l).map (fun s => s.2.1)).flatMap dif = D := ⟨_, rfl⟩
  obtain ⟨P1, hP1⟩ : ∃ P, be (cs.length : Int) 2 ++ (endsO cs (-1)).flatMap (fun e => be e 2) = P := ⟨_, rfl⟩
  have hP1l : P1.length = 2 + 2 * cs.length := by rw [← hP1, List.length_append, len_be2, hebl]
  obtain ⟨G, hG, hstep⟩ := flags_rt hb (endsO cs (-1)) l.length (by omega) l.length ((stp 0 0 l).map flagOf) (by omega) hfl P1 (DX ++ DY ++ rest) [] (2 + 2 * (cs.length : Int)) (by rw [hbe, hP1, hDX, hDY]; simp only [List.append_assoc]) (by omega) (by omega) (by simp [hsl])
  have hGl := hG.len
  rw [hsl] at hGl
  have hRL : (rle ((stp 0 0 l).map flagOf)).length ≤ 2 * l.length := by
    have := rle_len ((stp 0 0 l).map flagOf).length ((stp 0 0 l).map flagOf)
    rw [hsl] at this
    unfold rle
    rw [hsl]
    exact this
  have hosts : ∀ s ∈ stp 0 0 l, okS s = true := fun s hs => List.all_eq_true.1 hok s hs
  have hcx := coord_rt (b := b) (.inl ⟨rfl, rfl, rfl⟩) _ G (P1 ++ rle ((stp 0 0 l).map flagOf)) (DY ++ rest) (2 + 2 * (cs.length : Int) + ((rle ((stp 0 0 l).map flagOf)).length : Int)) 0 (sim_dx _ G hG hosts) (by rw [hbe, hP1, hDY]; simp only [List.append_assoc]) (by rw [List.length_append, hP1l]; omega)
  have hcy := coord_rt (b := b) (.inr ⟨rfl, rfl, rfl⟩) _ G (P1 ++ rle ((stp 0 0 l).map flagOf) ++ DX) rest (2 + 2 * (cs.length : Int) + ((rle ((stp 0 0 l).map flagOf)).length : Int) + (DX.length : Int)) 0 (sim_dy _ G hG hosts) (by rw [hbe, hP1, hDX]; simp only [List.append_assoc]) (by rw [List.length_append, List.length_append, hP1l]; omega)
  rw [psum_x, hDX] at hcx
  rw [psum_y] at hcy
  have hrest := rest_ev hb (endsO cs (-1)) G l.length (by omega) hGl (by omega) (fun e he => by have := hend e he; omega) (2 + 2 * (cs.length : Int) + ((rle ((stp 0 0 l).map flagOf)).length : Int)) (by omega) (by omega)
  have hre : restP b (endsO cs (-1)) G (2 + 2 * (cs.length : Int) + ((rle ((stp 0 0 l).map flagOf)).length : Int)) = (cs, []) := by
    unfold restP
    rw [hcx]
    simp only
    rw [hcy]
    simp only
    rw [show (-1 : Int) = ((0 : Nat) : Int) - 1 by decide, segs_rt (fun i hi => ptP_rt hG i hi) cs 0 (by rw [List.drop_zero, hl]) (by omega) hne]
  rw [hre] at hrest
  have h1 := hstep (cs, []) (by rw [List.nil_append]; exact hrest)
  unfold outline_contours.f
  rw [show wrap64 (2 + wrap64 (2 * (cs.length : Int))) = 2 + 2 * (cs.length : Int) by unfold wrap64; omega]
  exact l0_rt hb cs.length l.length hm (by omega) _ _ cs 0 0 [] (be (cs.length : Int) 2) (rle ((stp 0 0 l).map flagOf) ++ (DX ++ DY ++ rest)) (by rw [hbe, hDX, hDY]; simp only [List.append_assoc]; rfl) (by rw [len_be2]) (by omega) rfl (by rw [hl]; omega) hne h1

theorem parB_len (p : Pr) : (parB p).length = 6 := by simp [parB, be]
theorem prP_rt {b : List Int} : ∀ (r : List Pr) (i : Nat) (P Q : List Int), b = P ++ (r.flatMap parB ++ Q) → P.length = 4 + 6 * i → (∀ p ∈ r, 0 ≤ p.f0 ∧ p.f0 ≤ 65535 ∧ -32768 ≤ p.f1 ∧ p.f1 ≤ 32767 ∧ -32768 ≤ p.f2 ∧ p.f2 ≤ 32767) → (List.range' i r.length).map (prP b) = r
  | [], _, _, _, _, _, _ => rfl
  | p :: r, i, P, Q, hbe, hP, hr => by
    obtain ⟨g0, g1, g2, g3, g4, g5⟩ := hr p (by simp)
    rw [List.flatMap_cons] at hbe
    have e1 := field2 (b := b) (P := P) (x := p.f0) (a := 4 + 6 * (i : Int)) (R := be p.f1 2 ++ (be p.f2 2 ++ (r.flatMap parB ++ Q))) (by rw [hbe]; simp only [parB, List.append_assoc]) (by omega)
    have e2 := sign2 (b := b) (P := P ++ be p.f0 2) (x := p.f1) (a := 6 + 6 * (i : Int)) (R := be p.f2 2 ++ (r.flatMap parB ++ Q)) (by rw [hbe]; simp only [parB, List.append_assoc]) (by rw [List.length_append, len_be2]; omega) g2 g3
    have e3 := sign2 (b := b) (P := P ++ be p.f0 2 ++ be p.f1 2) (x := p.f2) (a := 8 + 6 * (i : Int)) (R := r.flatMap parB ++ Q) (by rw [hbe]; simp only [parB, List.append_assoc]) (by rw [List.length_append, List.length_append, len_be2, len_be2]; omega) g4 g5
    rw [List.length_cons, List.range'_succ, List.map_cons, prP_rt r (i + 1) (P ++ parB p) Q (by rw [hbe]; simp only [List.append_assoc]) (by rw [List.length_append, parB_len]; omega) (fun p hp => hr p (by simp [hp]))]
    unfold prP
    rw [e1, e2, e3]
    simp only
    rw [show p.f0 % 65536 = p.f0 by omega]
/-- THE ROUND TRIP, parts. -/
theorem parts_rt {b rest : List Int} (hb : b.all byteB = true) (ps : List Pr) (hp : ps.length ≤ 6) (hr : ∀ p ∈ ps, 0 ≤ p.f0 ∧ p.f0 ≤ 65535 ∧ -32768 ≤ p.f1 ∧ p.f1 ≤ 32767 ∧ -32768 ≤ p.f2 ∧ p.f2 ≤ 32767) (hbe : b = wrP ps ++ rest) : Ev (fun k => outline_parts.f k b) ([], ps) := by
  have h := parts_ev2 hb
  unfold wrP at hbe
  have e1 := field2 (b := b) (P := be (-1) 2) (x := (ps.length : Int)) (a := 2) (R := ps.flatMap parB ++ rest) (by rw [hbe]; simp only [List.append_assoc]) (by rw [len_be2]; rfl)
  rw [e1] at h
  simp only at h
  rw [show min ((ps.length : Int) % 65536).toNat 6 = ps.length by omega, prP_rt ps 0 (be (-1) 2 ++ be (ps.length : Int) 2) rest (by rw [hbe]; simp only [List.append_assoc]) (by rw [List.length_append, len_be2, len_be2]) hr] at h
  exact h

/-! ### Read -/
theorem bytes_inj {x y : List Int} (hx : x.all byteB = true) (hy : y.all byteB = true) (h : (strOfNums x).toList = (strOfNums y).toList) : x = y := by
  rw [Lib.strOfNums_toList, Lib.strOfNums_toList] at h
  unfold Lib.bytesOf at h
  induction x generalizing y with
  | nil => cases y with
    | nil => rfl
    | cons b y => simp at h
  | cons a x ih => cases y with
    | nil => simp at h
    | cons b y =>
      simp only [List.map_cons, List.cons.injEq] at h
      simp only [List.all_cons, Bool.and_eq_true, byteB, decide_eq_true_eq] at hx hy
      have e := congrArg UInt8.toNat h.1
      simp only [UInt8.toNat_ofNat'] at e
      have : a = b := by omega
      rw [this, ih hx.2 hy.2 h.2]
theorem all_app2 {a b : List Int} (h1 : a.all byteB = true) (h2 : b.all byteB = true) : (a ++ b).all byteB = true := by simp [List.all_append, h1, h2]
theorem be_all2 (x : Int) (n : Nat) : (be x n).all byteB = true := by
  rw [List.all_eq_true]
  intro c hc
  simp only [be, List.mem_map] at hc
  obtain ⟨i, _, rfl⟩ := hc
  simp [byteB]; omega
theorem flat_all {α : Type} {f : α → List Int} (h : ∀ x, (f x).all byteB = true) : ∀ l : List α, (l.flatMap f).all byteB = true
  | [] => rfl
  | x :: r => by rw [List.flatMap_cons]; exact all_app2 (h x) (flat_all h r)
theorem dif_all (d : Int) : (dif d).all byteB = true := by
  unfold dif
  split
  · rfl
  · split
    · exact be_all2 _ _
    · split <;> exact be_all2 _ _
theorem rle_all : ∀ (k : Nat) (l : List Int), (rleN k l).all byteB = true
  | 0, _ => rfl
  | k + 1, [] => rfl
  | k + 1, f :: r => by
    rw [rleN]
    refine all_app2 ?_ (rle_all k _)
    split
    · exact be_all2 _ _
    · exact all_app2 (be_all2 _ _) (be_all2 _ _)
theorem wrO_all (cs : List (List Pt)) (ps : List Pr) : (wrO cs ps).1.all byteB = true := by
  unfold wrO
  split
  · split
    · exact all_app2 (all_app2 (be_all2 _ _) (be_all2 _ _)) (flat_all (fun p => all_app2 (all_app2 (be_all2 _ _) (be_all2 _ _)) (be_all2 _ _)) _)
    · split
      · exact all_app2 (all_app2 (all_app2 (all_app2 (be_all2 _ _) (flat_all (fun e => be_all2 _ _) _)) (rle_all _ _)) (flat_all dif_all _)) (flat_all dif_all _)
      · rfl
  · rfl
theorem wrO_zero {cs : List (List Pt)} {ps : List Pr} {b : List Int} (h : wrO cs ps = (b, 0)) : fmO cs ps = true ∧ (if 0 < ps.length then b = wrP ps else ps = [] ∧ b = wrC cs ∧ (stp 0 0 cs.flatten).all okS = true) := by
  unfold wrO at h
  split at h
  · rename_i hf
    refine ⟨hf, ?_⟩
    split at h
    · rename_i hp
      rw [if_pos hp]
      exact (congrArg Prod.fst h).symm
    · rename_i hp
      rw [if_neg hp]
      split at h
      · rename_i ho
        exact ⟨List.eq_nil_of_length_eq_zero (by omega), (congrArg Prod.fst h).symm, ho⟩
      · exact absurd (show (4 : Int) = 0 from congrArg Prod.snd h) (by decide)
  · exact absurd (show (1 : Int) = 0 from congrArg Prod.snd h) (by decide)
theorem Write_f {cs : List (List Pt)} {ps : List Pr} (h : ∀ c ∈ cs, c.length ≤ 1000000000000) : outline_Write.f cs ps = some (wrO cs ps) := by
  unfold outline_Write.f
  rw [if_pos (List.all_eq_true.2 fun c hc => decide_eq_true (h c hc))]
theorem j1_ev {b : List Int} (hb : b.all byteB = true) (cs : List (List Pt)) (ps : List Pr) (h : ∀ c ∈ cs, c.length ≤ 1000000000000) : Ev (fun k => outline_Read.j1 k b cs ps) (if wrO cs ps = (b, 0) then (cs, ps, 0) else ([], [], 2)) := by
  refine Ev.step (fun k => by rw [outline_Read.j1, Write_f h, Option.bind_some]) ?_
  by_cases h0 : (wrO cs ps).2 = 0
  · by_cases he : (wrO cs ps).1 = b
    · rw [if_pos (Prod.ext he h0)]
      exact Ev.congr (fun k => by rw [if_pos h0, bytes_Equal.f, he, Option.bind_some, if_pos (by simp)]) (Ev.now _)
    · rw [if_neg (fun e => he (congrArg Prod.fst e))]
      have hne : ¬ (((strOfNums b).toList == (strOfNums (wrO cs ps).1).toList) = true) := fun h => he (bytes_inj hb (wrO_all cs ps) (by simpa using h)).symm
      exact Ev.congr (fun k => by rw [if_pos h0, bytes_Equal.f, Option.bind_some, if_neg hne]) (Ev.now _)
  · rw [if_neg (fun e => h0 (congrArg Prod.snd e))]
    exact Ev.congr (fun k => by rw [if_neg h0]) (Ev.now _)
/-- All bytes are read, or refused. -/
theorem read_or {b : List Int} (hb : b.all byteB = true) : Ev (fun k => outline_Read.f k b) ([], [], 2) ∨ ∃ (cs : List (List Pt)) (ps : List Pr), Ev (fun k => outline_Read.f k b) (cs, ps, 0) ∧ wrO cs ps = (b, 0) ∧ (∀ c ∈ cs, c.length ≤ 1000) := by
  have no (n : Int) : Ev (fun k => outline_Read.j0 k b n true) ([], [], 2) := Ev.step (fun k => by rw [outline_Read.j0, if_pos rfl]) (Ev.now _)
  have hr := i16P_range hb 0
  unfold outline_Read.f
  simp only [i16_eq hb, Option.bind_some]
  generalize i16P b 0 = q at hr
  cases h2 : q.2 with
  | false => left; exact Ev.congr (fun k => by rw [if_neg (by decide)]) (no _)
  | true =>
    simp only [if_true]
    by_cases h3 : q.1 < -1
    · left; simp only [if_pos h3]; exact no _
    · simp only [if_neg h3]
      by_cases h4 : q.1 > 10
      · left; rw [decide_eq_true h4]; exact no _
      · rw [decide_eq_false h4]
        by_cases h5 : q.1 = -1
        · have hp := parts_ev2 hb
          have hj := j1_ev hb [] ((List.range' 0 (min (fieldP b 2 2).1.toNat 6)).map (prP b)) (by simp)
          have hall : Ev (fun k => outline_Read.j0 k b q.1 false) _ := Ev.step (fun k => by rw [outline_Read.j0, if_neg (by decide), if_pos h5]) (Ev.bind hp hj)
          by_cases he : wrO [] ((List.range' 0 (min (fieldP b 2 2).1.toNat 6)).map (prP b)) = (b, 0)
          · rw [if_pos he] at hall
            exact .inr ⟨_, _, hall, he, by simp⟩
          · rw [if_neg he] at hall
            exact .inl hall
        · obtain ⟨n, hn⟩ : ∃ n : Nat, q.1 = (n : Int) := ⟨q.1.toNat, by omega⟩
          obtain ⟨p, hp, hl, h7⟩ := contours_tot hb n (by omega)
          have hj := j1_ev hb p.1 p.2 (fun c hc => by have := hl c hc; omega)
          have hall : Ev (fun k => outline_Read.j0 k b q.1 false) _ := Ev.step (fun k => by rw [outline_Read.j0, if_neg (by decide), if_neg h5, hn]) (Ev.bind hp hj)
          by_cases he : wrO p.1 p.2 = (b, 0)
          · rw [if_pos he] at hall
            exact .inr ⟨_, _, hall, he, hl⟩
          · rw [if_neg he] at hall
            exact .inl hall
/-- THE ROUND TRIP, whatever stands behind. -/
theorem read_rt {cs : List (List Pt)} {ps : List Pr} {w : List Int} (h : wrO cs ps = (w, 0)) {rest : List Int} (hrb : rest.all byteB = true) : Ev (fun k => outline_Read.f k (w ++ rest)) (if rest = [] then (cs, ps, 0) else ([], [], 2)) := by
  have hw : w.all byteB = true := by have := wrO_all cs ps; rw [h] at this; exact this
  have hb : (w ++ rest).all byteB = true := all_app2 hw hrb
  obtain ⟨hf, hz⟩ := wrO_zero h
  have hfa := fmO_facts hf
  have hcl : ∀ c ∈ cs, c.length ≤ 1000000000000 := fun c hc => by have := (hfa.ne c hc).2; omega
  have hj := j1_ev hb cs ps hcl
  have hif : (if wrO cs ps = (w ++ rest, 0) then (cs, ps, (0 : Int)) else ([], [], 2)) = (if rest = [] then (cs, ps, 0) else ([], [], 2)) := by
    rw [h]
    by_cases hr : rest = []
    · rw [hr, List.append_nil, if_pos rfl, if_pos rfl]
    · rw [if_neg hr, if_neg (fun e => hr (by
        have e1 : w = w ++ rest := congrArg Prod.fst e
        have e2 := congrArg List.length e1
        rw [List.length_append] at e2
        exact List.eq_nil_of_length_eq_zero (by omega)))]
  rw [hif] at hj
  unfold outline_Read.f
  split at hz
  · rename_i hp
    have hc0 : cs = [] := by
      rcases hfa.one with h1 | h1
      · exact h1
      · rw [h1] at hp; simp at hp
    have e := sign2 (b := w ++ rest) (P := []) (x := -1) (a := 0) (R := be (ps.length : Int) 2 ++ (ps.flatMap parB ++ rest)) (by rw [hz]; simp only [wrP, List.append_assoc, List.nil_append]) rfl (by omega) (by omega)
    have hpr := parts_rt hb ps hfa.par hfa.prs (rest := rest) (by rw [hz])
    refine Ev.congr (fun k => by rw [i16_eq hb, e, Option.bind_some, if_pos rfl, if_neg (by decide), decide_eq_false (show ¬ ((-1 : Int) > 10) by decide)]) ?_
    refine Ev.step (fun k => by rw [outline_Read.j0, if_neg (by decide), if_pos rfl]) ?_
    rw [hc0] at hj ⊢
    exact Ev.bind hpr hj
  · obtain ⟨h1, h2, h3⟩ := hz
    subst h1
    have hm := hfa.con
    have e := sign2 (b := w ++ rest) (P := []) (x := (cs.length : Int)) (a := 0) (R := (endsO cs (-1)).flatMap (fun e => be e 2) ++ (rle ((stp 0 0 cs.flatten).map flagOf) ++ (((stp 0 0 cs.flatten).map (·.1)).flatMap dif ++ (((stp 0 0 cs.flatten).map (·.2.1)).flatMap dif ++ rest)))) (by rw [h2]; simp only [wrC, List.append_assoc, List.nil_append]) rfl (by omega) (by omega)
    have hct := contours_rt hb cs hfa h3 (rest := rest) (by rw [h2])
    refine Ev.congr (fun k => by rw [i16_eq hb, e, Option.bind_some, if_pos rfl, if_neg (by simp only; omega), decide_eq_false (show ¬ ((cs.length : Int) > 10) by omega)]) ?_
    refine Ev.step (fun k => by rw [outline_Read.j0, if_neg (by decide), if_neg (by simp only; omega)]) ?_
    exact Ev.bind hct hj
theorem Ev.uniq {α : Type} {g : Nat → Option α} {a b : α} (h1 : Ev g a) (h2 : Ev g b) : a = b := by
  obtain ⟨K1, h1⟩ := h1
  obtain ⟨K2, h2⟩ := h2
  exact Option.some.inj ((h1 (max K1 K2) (Nat.le_max_left _ _)).symm.trans (h2 (max K1 K2) (Nat.le_max_right _ _)))
end Go.Proofs.Ytmppdgjnibamlab.Pag
