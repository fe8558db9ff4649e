/- What outline.Write makes, in plain words; and more of the page's neighbours. -/
import Derived.Test.YtmppdgjnibamlabOlD
namespace Go.Proofs.Ytmppdgjnibamlab.Pag
open Go.RowKit Go.Proofs.Ytmppdgjnibamlab.POl Go.Proofs.YtmppdgjnibamlabW.PrintWords
set_option linter.unusedVariables false
set_option linter.unusedSimpArgs false

abbrev Stp := Int × Int × Bool
def stp : Int → Int → List Pt → List Stp
  | _, _, [] => []
  | a, b, p :: r => (p.f0 - a, p.f1 - b, p.f2) :: stp p.f0 p.f1 r
theorem stp_len : ∀ (l : List Pt) (a b : Int), (stp a b l).length = l.length
  | [], _, _ => rfl
  | p :: r, _, _ => by simp [stp, stp_len r]
def flagOf (s : Stp) : Int := flg s.1 2 16 + flg s.2.1 4 32 + (if s.2.2 = true then 1 else 0)
def okS (s : Stp) : Bool := inF s.1 && inF s.2.1
theorem flg_cases (d sh sa : Int) : flg d sh sa = sa ∨ flg d sh sa = sh + sa ∨ flg d sh sa = sh ∨ flg d sh sa = 0 := by
  unfold flg
  split
  · exact .inl rfl
  · split
    · exact .inr (.inl rfl)
    · split
      · exact .inr (.inr (.inl rfl))
      · exact .inr (.inr (.inr rfl))
theorem flag_bits0 (x y z : Int) (h1 : x = 16 ∨ x = 2 + 16 ∨ x = 2 ∨ x = 0) (h2 : y = 32 ∨ y = 4 + 32 ∨ y = 4 ∨ y = 0) (h3 : z = 1 ∨ z = 0) : Go.bits .or .i64 x y = x + y ∧ Go.bits .or .i64 (x + y) 1 = x + y + 1 ∧ Go.bits .or .i64 (x + y + z) 8 = x + y + z + 8 ∧
    Go.bits .and .i64 (x + y + z) 18 = x ∧ Go.bits .and .i64 (x + y + z) 36 = y ∧ 0 ≤ x + y + z ∧ x + y + z ≤ 55 := by
  rcases h1 with rfl | rfl | rfl | rfl <;> rcases h2 with rfl | rfl | rfl | rfl <;> rcases h3 with rfl | rfl <;> decide
theorem flag_bits (s : Stp) : Go.bits .or .i64 (flg s.1 2 16) (flg s.2.1 4 32) = flg s.1 2 16 + flg s.2.1 4 32 ∧ (s.2.2 = true → Go.bits .or .i64 (flg s.1 2 16 + flg s.2.1 4 32) 1 = flagOf s) ∧ Go.bits .or .i64 (flagOf s) 8 = flagOf s + 8 ∧
    Go.bits .and .i64 (flagOf s) 18 = flg s.1 2 16 ∧ Go.bits .and .i64 (flagOf s) 36 = flg s.2.1 4 32 ∧ 0 ≤ flagOf s ∧ flagOf s ≤ 55 := by
  have h := flag_bits0 _ _ (if s.2.2 = true then 1 else 0) (flg_cases s.1 2 16) (flg_cases s.2.1 4 32) (by split; exact .inl rfl; exact .inr rfl)
  refine ⟨h.1, fun hc => ?_, h.2.2⟩
  rw [h.2.1]
  unfold flagOf
  rw [if_pos hc]
def lead (f : Int) : List Int → Nat
  | [] => 0
  | x :: r => if x = f then lead f r + 1 else 0
theorem lead_le (f : Int) : ∀ r : List Int, lead f r ≤ r.length
  | [] => Nat.le_refl _
  | x :: r => by
    have := lead_le f r
    unfold lead
    split
    · simp; omega
    · simp
theorem lead_in (f : Int) : ∀ (r : List Int) (m : Nat) (h : m < lead f r) (h2 : m < r.length), r[m] = f
  | [], m, h, h2 => by simp at h2
  | x :: r, m, h, h2 => by
    unfold lead at h
    split at h
    · rename_i he
      cases m with
      | zero => exact he
      | succ m => exact lead_in f r m (by omega) (by simpa using h2)
    · omega
theorem lead_out (f : Int) : ∀ (r : List Int) (h2 : lead f r < r.length), r[lead f r] ≠ f
  | [], h2 => by simp at h2
  | x :: r, h2 => by
    by_cases he : x = f
    · have e : lead f (x :: r) = lead f r + 1 := by rw [lead, if_pos he]
      have h3 : lead f r < r.length := by rw [e] at h2; simpa using h2
      have := lead_out f r h3
      simp only [e, List.getElem_cons_succ]
      exact this
    · have e : lead f (x :: r) = 0 := by rw [lead, if_neg he]
      simp only [e, List.getElem_cons_zero]
      exact he
def rleN : Nat → List Int → List Int
  | 0, _ => []
  | _ + 1, [] => []
  | k + 1, f :: r => (if lead f r = 0 then be f 1 else be (f + 8) 1 ++ be (lead f r : Int) 1) ++ rleN k (r.drop (lead f r))
theorem rleN_more : ∀ (k : Nat) (l : List Int), l.length ≤ k → rleN k l = rleN l.length l
  | 0, [], _ => rfl
  | k + 1, [], _ => rfl
  | k + 1, f :: r, h => by
    have hl : r.length ≤ k := by simpa using h
    rw [rleN, List.length_cons, rleN]
    congr 1
    rw [rleN_more k _ (by rw [List.length_drop]; omega)]
    by_cases hz : r.length = k
    · rw [hz, rleN_more k _ (by rw [List.length_drop]; omega)]
    · exact (rleN_more r.length _ (by rw [List.length_drop]; omega)).symm
def rle (l : List Int) : List Int := rleN l.length l
theorem rle_nil : rle [] = [] := rfl
theorem rle_cons (f : Int) (r : List Int) : rle (f :: r) = (if lead f r = 0 then be f 1 else be (f + 8) 1 ++ be (lead f r : Int) 1) ++ rle (r.drop (lead f r)) := by
  unfold rle
  rw [List.length_cons, rleN, rleN_more r.length _ (by rw [List.length_drop]; omega)]
theorem rle_len : ∀ (k : Nat) (l : List Int), (rleN k l).length ≤ 2 * l.length
  | 0, l => by simp [rleN]
  | k + 1, [] => by simp [rleN]
  | k + 1, f :: r => by
    have h := rle_len k (r.drop (lead f r))
    rw [List.length_drop] at h
    rw [rleN, List.length_append, List.length_cons]
    split
    · have : (be f 1).length = 1 := by simp [be]
      omega
    · have h1 : (be (f + 8) 1).length = 1 := by simp [be]
      have h2 : (be (lead f r : Int) 1).length = 1 := by simp [be]
      rw [List.length_append]
      have := lead_le f r
      omega
/-- The bytes of an outline of contours. -/
def wrC (cs : List (List Pt)) : List Int := be (cs.length : Int) 2 ++ (endsO cs (-1)).flatMap (fun e => be e 2) ++ rle ((stp 0 0 cs.flatten).map flagOf) ++ ((stp 0 0 cs.flatten).map (·.1)).flatMap dif ++ ((stp 0 0 cs.flatten).map (·.2.1)).flatMap dif
def parB (p : Pr) : List Int := be p.f0 2 ++ be p.f1 2 ++ be p.f2 2
def wrP (ps : List Pr) : List Int := be (-1) 2 ++ be (ps.length : Int) 2 ++ ps.flatMap parB
def wrO (cs : List (List Pt)) (ps : List Pr) : List Int × Int :=
  if fmO cs ps = true then (if 0 < ps.length then (wrP ps, 0) else if (stp 0 0 cs.flatten).all okS = true then (wrC cs, 0) else ([], 4)) else ([], 1)
/-- In the print's form. -/
def outline_Write.f (cs : List (List Pt)) (ps : List Pr) : Option (List Int × Int) := if cs.all (fun c => decide (c.length ≤ 1000000000000)) = true then some (wrO cs ps) else none

section
variable {w0 wr w1 : World} {base g : Nat} {X X1 : List Int} {rows post : List (Value × List Int)} {blks : List (Nat × Obj)} {v : Value} {xs : List Int}
theorem Hp.alloc' (h : Hp w0 wr base g X rows blks) (o : Obj) : Hp w0 (wr.alloc o) base g X rows blks := (h.alloc o).sub fun p hp => List.mem_cons_of_mem _ hp
theorem Hp.tail {r : Value × List Int} (h : Hp w0 wr base g X (r :: rows) blks) : Hp w0 wr base g X rows blks := by
  obtain ⟨ok, h1, h2, h3, h4, h5⟩ := h
  exact ⟨ok, h1, h2, fun r hr => h3 r (List.mem_cons_of_mem _ hr), (List.pairwise_cons.1 h4).2, fun p hp => ⟨(h5 p hp).1, (h5 p hp).2.1, fun r hr => (h5 p hp).2.2 r (List.mem_cons_of_mem _ hr)⟩⟩
/-- A page that is new, a block beside it. -/
theorem Hp.new3 {base b : Nat} {o : Obj} (hb : Below base w0 wr) (hl : base ≤ wr.heap.size) (ho : wr.heap[b]? = some o) : Hp w0 (wr.alloc (.cells #[.slice none 0 0, .slice none 0 0, .bool false] 79)) base wr.heap.size [] [] [(b, o)] := by
  have hlt := (Array.getElem?_eq_some_iff.1 ho).1
  refine ⟨_, Pag.Pg.new wr base hl, below_then hb hl (below_alloc (Below.refl _ _) _), by simp, List.Pairwise.nil, fun p hp => ?_⟩
  obtain rfl := List.mem_singleton.1 hp
  refine ⟨((below_alloc (Below.refl wr.heap.size wr) _).block b hlt).trans ho, fun hk => ?_, by simp⟩
  simp only at hk
  omega
/-- A row that is made behind. -/
theorem Hp.addrow (h : Hp w0 wr base g X rows blks) (hb : Below wr.heap.size wr w1) (ho : w1.ownsRow wr.heap.size 3 1 v xs.length (nums .i64 xs)) : Hp w0 w1 base g X ((v, xs) :: rows) blks := by
  have hbase := h.base_le
  obtain ⟨ok, h1, h2, h3, h4, h5⟩ := h
  refine ⟨_, h1.bound.below hb, below_then h2 hbase hb, fun r hr => ?_, List.Pairwise.cons (fun r hr k e e2 => ?_) h4, fun p hp => ⟨?_, fun hk => (h5 p hp).2.1 hk.1, fun r hr => ?_⟩⟩
  · rcases List.mem_cons.1 hr with rfl | hr
    · refine ⟨own_weaken ho hbase, fun k e hk => ?_⟩
      have := own_base ho k e
      have := hk.2.2
      omega
    · exact ⟨pw_own_below (h3 r hr).1 hb, fun k e hk => (h3 r hr).2 k e hk.1⟩
  · have := own_base ho k e
    have := own_lt (h3 r hr).1 k e2
    omega
  · have h6 := (h5 p hp).1
    exact (hb.block p.1 (Array.getElem?_eq_some_iff.1 h6).1).trans h6
  · have h6 := (Array.getElem?_eq_some_iff.1 (h5 p hp).1).1
    rcases List.mem_cons.1 hr with rfl | hr
    · intro e
      have := own_base ho _ e
      omega
    · exact (h5 p hp).2.2 r hr
/-- Points that are made behind: a block. -/
theorem Hp.addC (h : Hp w0 wr base g X rows blks) (hb : Below wr.heap.size wr w1) {l : List Pt} (hR : Kd.R k40 40 w1 wr.heap.size (fun _ => True) v l) :
    ∃ A c PB, v = .slice A l.length c ∧ l.length ≤ c ∧ Hp w0 w1 base g X rows (PB ++ blks) ∧ (∀ p ∈ PB, wr.heap.size ≤ p.1) ∧ ∀ w', (∀ p ∈ PB, w'.heap[p.1]? = some p.2) → Kd.C k40 w' A l.length l := by
  obtain ⟨A, c, hv, hle, hC⟩ := Kd.R_reads hR
  obtain ⟨-, inner, ⟨hil, hown⟩, hr1, hr2⟩ := hR
  rcases hown with ⟨hn, h0⟩ | ⟨gp, cap, cur, hv2, hbs, hblk, hle2, hm, hsz, htk⟩
  · refine ⟨A, c, [], hv, hle, h.below hb, by simp, fun w' _ => ?_⟩
    have hl0 : l = [] := List.eq_nil_of_length_eq_zero h0
    subst hl0
    rw [hv] at hn
    injection hn with e1 _ _
    rw [e1]
    exact Kd.C_nil _ _
  · rw [hv] at hv2
    injection hv2 with e1 e2 e3
    refine ⟨A, c, [(gp, .cells cur 40 (0, 0))], hv, hle, ?_, fun p hp => by obtain rfl := List.mem_singleton.1 hp; exact hbs, fun w' hw => ?_⟩
    · have hb2 := h.below hb
      obtain ⟨ok, h1, h2, h3, h4, h5⟩ := h
      refine ⟨_, h1.bound.below hb, hb2.bel, fun r hr => ⟨pw_own_below (h3 r hr).1 hb, fun k e hk => (h3 r hr).2 k e hk.1⟩, h4, fun p hp => ?_⟩
      rcases List.mem_append.1 hp with hp | hp
      · obtain rfl := List.mem_singleton.1 hp
        refine ⟨hblk, fun hk => ?_, fun r hr e => ?_⟩
        · have := hk.2.2
          simp only at this
          omega
        · have := own_lt (h3 r hr).1 _ e
          simp only at this
          omega
      · have h6 := (h5 p hp).1
        exact ⟨(hb.block p.1 (Array.getElem?_eq_some_iff.1 h6).1).trans h6, fun hk => (h5 p hp).2.1 hk.1, (h5 p hp).2.2⟩
    · have hq := hw _ (List.mem_singleton.2 rfl)
      refine ⟨hC.1, hC.2.1, fun hn => ?_⟩
      obtain ⟨ad, he, hc⟩ := hC.2.2 hn
      refine ⟨ad, he, fun j x hj => ?_⟩
      obtain ⟨cc, h1, h2, h3⟩ := hc j x hj
      have hbk : ad.block = gp := by rw [e1] at he; injection he with he; rw [← he]
      refine ⟨cc, h1, ?_, fun i u hu => ?_⟩
      · obtain rfl := k40_open h2
        exact k40_mk w' x
      · have h4 := h3 i u hu
        have hbk2 : (ad.add (j * k40.sz + i)).block = gp := by unfold Addr.add; split <;> exact hbk
        rw [← h4]
        unfold World.cell?
        rw [hbk2, hq, hblk]
theorem Hp.drawn0 (h : Hp w0 wr base g X rows blks) (hd : Drawn0 wr w1) : Hp w0 w1 base g X rows blks := by
  obtain ⟨n, rfl⟩ := hd.out
  exact h.drewN n
end
end Go.Proofs.Ytmppdgjnibamlab.Pag
