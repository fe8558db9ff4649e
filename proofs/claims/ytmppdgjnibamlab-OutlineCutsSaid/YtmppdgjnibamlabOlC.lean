/- outline.Write of what is not formed, and of parts: the walks. -/
import Derived.Test.YtmppdgjnibamlabOlB
namespace Go.Proofs.Ytmppdgjnibamlab.Pag
open Go.RowKit Go.Proofs.Ytmppdgjnibamlab.POl Go.Proofs.YtmppdgjnibamlabW.PrintWords
set_option linter.unusedVariables false
set_option linter.unusedSimpArgs false

theorem Hp.cell {w0 wr : World} {base g : Nat} {X : List Int} {rows : List (Value × List Int)} {blks : List (Nat × Obj)} (h : Hp w0 wr base g X rows blks) {b : Nat} {cs : Array Value} {t : TypeId} (hb : (b, .cells cs t (0, 0)) ∈ blks) (i : Nat) : wr.cell? ⟨b, i, none⟩ = cs[i]? := by
  have := h.blk hb
  simp only at this
  simp [World.cell?, this]
theorem Hp.cellE {w0 wr : World} {base g : Nat} {X : List Int} {rows : List (Value × List Int)} {blks : List (Nat × Obj)} (h : Hp w0 wr base g X rows blks) {b : Nat} {cs : Array Value} {t : TypeId} {B : Nat × Obj} (e : (b, Obj.cells cs t (0, 0)) = B) (hb : B ∈ blks) (i : Nat) : wr.cell? ⟨b, i, none⟩ = cs[i]? := h.cell (e ▸ hb) i
theorem Hp.cells3 {w0 wr : World} {base g : Nat} {X : List Int} {rows : List (Value × List Int)} {blks : List (Nat × Obj)} (h : Hp w0 wr base g X rows blks) {b : Nat} {x y z : Value} {t : TypeId} (hb : (b, Obj.cells #[x, y, z] t (0, 0)) ∈ blks) :
    wr.cell? ⟨b, 0, none⟩ = some x ∧ wr.cell? ⟨b, 1, none⟩ = some y ∧ wr.cell? ⟨b, 2, none⟩ = some z ∧ wr.frozen? ⟨b, 0, none⟩ = false ∧ wr.frozen? ⟨b, 1, none⟩ = false ∧ wr.frozen? ⟨b, 2, none⟩ = false :=
  ⟨(h.cell hb 0).trans rfl, (h.cell hb 1).trans rfl, (h.cell hb 2).trans rfl, blk_frozen (h.blk hb) 0, blk_frozen (h.blk hb) 1, blk_frozen (h.blk hb) 2⟩
theorem Hp.x3 {w0 wr : World} {base g : Nat} {X : List Int} {rows : List (Value × List Int)} {blks : List (Nat × Obj)} (h : Hp w0 wr base g X rows blks) (b : Nat) (x y z : Value) (t : TypeId) (hb : (b, Obj.cells #[x, y, z] t (0, 0)) ∈ blks) :
    wr.cell? ⟨b, 0, none⟩ = some x ∧ wr.cell? ⟨b, 1, none⟩ = some y ∧ wr.cell? ⟨b, 2, none⟩ = some z := ⟨(h.cell hb 0).trans rfl, (h.cell hb 1).trans rfl, (h.cell hb 2).trans rfl⟩
theorem Hp.set3 {w0 wr : World} {base g : Nat} {X : List Int} {rows : List (Value × List Int)} {blks : List (Nat × Obj)} {b : Nat} {x y z : Value} {t : TypeId} (h : Hp w0 wr base g X rows ((b, Obj.cells #[x, y, z] t (0, 0)) :: blks)) (hb : base ≤ b) (hd : ∀ p ∈ blks, p.1 ≠ b) (x' y' z' : Value) :
    Hp w0 (((wr.setCell ⟨b, 0, none⟩ x').setCell ⟨b, 1, none⟩ y').setCell ⟨b, 2, none⟩ z') base g X rows ((b, Obj.cells #[x', y', z'] t (0, 0)) :: blks) :=
  ((h.set hb hd 0 x').set hb hd 1 y').set hb hd 2 z'
theorem be_len2 (x : Int) : (be x 2).length = 2 := by simp [be]
theorem be_len1 (x : Int) : (be x 1).length = 1 := by simp [be]
set_option maxHeartbeats 2000000 in
set_option maxRecDepth 100000 in
theorem Write_no (A0 A1 : Option Addr) (c0 c1 : Nat) (cs : List (List Pt)) (ps : List Pr) (w : World) (hr0 : Kd.C (Kd.slice 40 k40) w A0 cs.length cs) (hc0 : cs.length ≤ c0) (hr1 : Kd.C k82 w A1 ps.length ps) (hc1 : ps.length ≤ c1) (hcl : ∀ c ∈ cs, c.length ≤ 1000000000000) (hf : fmO cs ps = false) :
    Calls Try.prog 16 #[.agg #[.slice A0 cs.length c0, .slice A1 ps.length c1]] w fun e w' => ∃ v0_ : Value, e = .returned (.tuple #[v0_, .int .i64 1]) ∧ Kd.R (Kd.int .u8) 5 w' w.heap.size (fun _ => True) v0_ [] ∧ Below w.heap.size w w' := by
  obtain ⟨kf, hkf⟩ := (formed_ev cs ps hcl).rounds
  rw [hf] at hkf
  have HFM := Aside0.mk (fun (W : World) (hb : Below w.heap.size w W) => outline_Formed.calls kf A0 c0 cs A1 c1 ps false W (Kd.C_below hr0 hb) hc0 (Kd.C_below hr1 hb) hc1 hkf)
  clear hkf hr0 hr1 hc0 hc1 hcl hf
  go_enter Try.func16, Try.ntmps16
  go_wp2_with (first
    | ((with_reducible refine gate_dst (N := 1) rfl ?_); refine box_event ?hg (N := 1) ?hd (cs := #[.slice A0 cs.length c0, .slice A1 ps.length c1]) (t := 25) ?hr ?_; (case hd => rfl); (case hg => rfl); (case hr => first | (go_simp; done) | (go_simp; rfl)); intro gb hg w1 hbox hb; have HB1 := Aside0.mk (below_step (Below.refl w.heap.size w) hb); have hcz0 : w1.cell? ⟨gb, 0, none⟩ = some (.slice A0 cs.length c0) := (blk_cell hbox 0).trans rfl; have hcz1 : w1.cell? ⟨gb, 1, none⟩ = some (.slice A1 ps.length c1) := (blk_cell hbox 1).trans rfl; clear hg hbox hb)
    | (go_at_call 22; refine (HFM.out _ HB1.out).mono ?_; rintro e w2 ⟨rfl, hb⟩; have HB2 := Aside0.mk (below_then HB1.out HB1.out.size hb); clear hb HB1 HFM hcz0 hcz1))
  go_ret2
  exact ⟨_, rfl, Kd.R_nil _ _ _ _ _, HB2.out⟩
set_option maxHeartbeats 4000000 in
set_option maxRecDepth 100000 in
theorem Write_parts (A0 A1 : Option Addr) (c0 c1 : Nat) (cs : List (List Pt)) (ps : List Pr) (w : World) (hr0 : Kd.C (Kd.slice 40 k40) w A0 cs.length cs) (hc0 : cs.length ≤ c0) (hr1 : Kd.C k82 w A1 ps.length ps) (hc1 : ps.length ≤ c1) (hcl : ∀ c ∈ cs, c.length ≤ 1000000000000) (hf : fmO cs ps = true) (hp : 0 < ps.length) :
    Calls Try.prog 16 #[.agg #[.slice A0 cs.length c0, .slice A1 ps.length c1]] w fun e w' => ∃ v0_ : Value, e = .returned (.tuple #[v0_, .int .i64 0]) ∧ Kd.R (Kd.int .u8) 5 w' w.heap.size (fun _ => True) v0_ (wrP ps) ∧ Below w.heap.size w w' := by
  obtain ⟨kf, hkf⟩ := (formed_ev cs ps hcl).rounds
  rw [hf] at hkf
  have hfacts := fmO_facts hf
  have HPR := Aside0.mk hfacts.prs
  have hp6 := hfacts.par
  have HFM := Aside0.mk (fun (W : World) (hb : Below w.heap.size w W) => outline_Formed.calls kf A0 c0 cs A1 c1 ps true W (Kd.C_below hr0 hb) hc0 (Kd.C_below hr1 hb) hc1 hkf)
  have HCP := Aside0.mk (fun (W : World) (hb : Below w.heap.size w W) => Kd.C_below hr1 hb)
  obtain ⟨FIN, hFIN⟩ : ∃ F, wrP ps = F := ⟨_, rfl⟩
  have HQ0 : Aside0 (be (-1) 2 ++ be (ps.length : Int) 2 ++ (ps.drop 0).flatMap parB = FIN) := ⟨hFIN⟩
  rw [hFIN]
  clear hFIN
  clear hkf hr0 hr1 hc0 hc1 hcl hf hfacts
  obtain ⟨n, hn⟩ : ∃ n, ps.length = n := ⟨_, rfl⟩
  have HN := Aside0.mk hn
  rw [hn] at hp hp6 HFM HCP HQ0 ⊢
  clear hn
  have hp0 : (0 : Int) < (n : Int) := by omega
  have HL2 : Aside0 (([] ++ be (-1) 2 ++ be (n : Int) 2).length = 4) := ⟨by simp [be_len2]⟩
  obtain ⟨Y1, hY1⟩ : ∃ Y, be (-1) 2 = Y := ⟨_, rfl⟩
  have HY1L : Aside0 (Y1.length = 2) := ⟨by rw [← hY1, be_len2]⟩
  obtain ⟨Y2, hY2⟩ : ∃ Y, be (n : Int) 2 = Y := ⟨_, rfl⟩
  rw [hY1, hY2] at HQ0 HL2
  have HY1 := Aside0.mk hY1
  have HY2 := Aside0.mk hY2
  clear hY1 hY2
  go_enter Try.func16, Try.ntmps16
  go_wp2_with (first
    | ((with_reducible refine gate_dst (N := 1) rfl ?_); refine box_event ?hg (N := 1) ?hd (cs := #[.slice A0 cs.length c0, .slice A1 n c1]) (t := 25) ?hr ?_; (case hd => rfl); (case hg => rfl); (case hr => first | (go_simp; done) | (go_simp; rfl)); intro gb hg w1 hbox hb; have HB1 := Aside0.mk (below_step (Below.refl w.heap.size w) hb); have HBX := Aside0.mk hbox; have hcz0 : w1.cell? ⟨gb, 0, none⟩ = some (.slice A0 cs.length c0) := (blk_cell hbox 0).trans rfl; have hcz1 : w1.cell? ⟨gb, 1, none⟩ = some (.slice A1 n c1) := (blk_cell hbox 1).trans rfl; clear hg hbox hb)
    | (go_at_call 22; refine (HFM.out _ HB1.out).mono ?_; rintro e w2 ⟨rfl, hb⟩; have HB2 := Aside0.mk (below_then HB1.out HB1.out.size hb); have HBX2 := Aside0.mk ((hb.block gb (Array.getElem?_eq_some_iff.1 HBX.out).1).trans HBX.out); have HP0 := Aside0.mk (Hp.new3 HB2.out HB2.out.size HBX2.out); have hd1 := HP0.out.cell (List.mem_singleton.2 rfl) 1; simp only [List.getElem?_toArray, List.getElem?_cons_zero, List.getElem?_cons_succ] at hd1; clear hb HB1 HFM hcz0 hcz1 HBX HBX2)
    | (go_at_call 47; refine (HP0.out.put16 (-1) (by simp) (by omega) (by omega)).mono ?_; rintro e w3 ⟨rfl, hq⟩; rw [HY1.out] at hq; have HP1 := Aside0.mk hq; have hd1 := hq.cell (List.mem_singleton.2 rfl) 1; simp only [List.getElem?_toArray, List.getElem?_cons_zero, List.getElem?_cons_succ] at hd1; clear hq HP0)
    | (go_at_call 47; refine (HP1.out.put16 (n : Int) (by have := HY1L.out; simp only [List.nil_append]; omega) (by omega) (by omega)).mono ?_; rintro e w4 ⟨rfl, hq⟩; rw [HY2.out] at hq; have HP2 := Aside0.mk hq; have hd1 := hq.cell (List.mem_singleton.2 rfl) 1; simp only [List.getElem?_toArray, List.getElem?_cons_zero, List.getElem?_cons_succ] at hd1; clear hq HP1))
  go_loopw [39] (fun i wr => ∃ (j : Nat) (Y : List Int), i = .int .i64 (j : Int) ∧ j ≤ n ∧ Aside0 (Hp w wr w.heap.size w2.heap.size Y [] [(gb, .cells #[.slice A0 cs.length c0, .slice A1 n c1] 25 (0, 0))]) ∧ Aside0 (Y ++ (ps.drop j).flatMap parB = FIN) ∧ Aside0 (Y.length = 4 + 6 * j)) (fun i _ => n - (RowKit.intOf i).toNat)
  case atStart => exact ⟨0, _, rfl, by omega, HP2, ⟨by have := HQ0.out; rwa [List.nil_append]⟩, ⟨by have := HL2.out; omega⟩⟩
  case round =>
    obtain ⟨j, Y, rfl, hj, HP, HQ, HL⟩ := hrel
    clear HP2 HQ0 HL2 hd1
    obtain ⟨wo, rfl⟩ : ∃ wo : World, wo = wr := ⟨_, rfl⟩
    by_cases hlt : j < n
    · have hq0 : (0 : Int) ≤ (j : Int) := by omega
      have hq1 : (j : Int) < (n : Int) := by omega
      have hjp : j < ps.length := by rw [HN.out]; exact hlt
      obtain ⟨ad, had, hx0, hx1, hx2⟩ := at_T82 (HCP.out wo HP.out.bel) (j : Int) hq0 hq1
      subst had
      rw [rdR hjp] at hx0 hx1 hx2
      have hpr := HPR.out ps[j] (List.getElem_mem hjp)
      have hQ := HQ.out
      rw [List.drop_eq_getElem_cons hjp, List.flatMap_cons] at hQ
      obtain ⟨p, hpe⟩ : ∃ p, ps[j] = p := ⟨_, rfl⟩
      rw [hpe] at hx0 hx1 hx2 hpr hQ
      clear hpe hjp
      obtain ⟨p0, p1, p2⟩ := p
      simp only at hx0 hx1 hx2 hpr
      simp only [Int.toNat_natCast] at hx0 hx1 hx2
      obtain ⟨g0, g1, g2, g3, g4, g5⟩ := hpr
      have hQ2 : Y ++ be p0 2 ++ be p1 2 ++ be p2 2 ++ (ps.drop (j + 1)).flatMap parB = FIN := by rw [← hQ]; simp only [parB, List.append_assoc]
      have HQ2 := Aside0.mk hQ2
      have HAL := Aside0.mk (HP.out.alloc (.cells #[.int .i64 p0, .int .i64 p1, .int .i64 p2] 82))
      have HYL := Aside0.mk (show Y.length ≤ 100 by have := HL.out; omega)
      clear hQ hQ2 HQ
      go_wp2_with (first
        | (go_at_call 47; refine (HAL.out.put16 p0 (by have := HYL.out; omega) (by omega) (by omega)).mono ?_; rintro e wa ⟨rfl, hq⟩; have HA1 := Aside0.mk hq; have hd1 := hq.cell List.mem_cons_self 1; simp only [List.getElem?_toArray, List.getElem?_cons_zero, List.getElem?_cons_succ] at hd1; clear hq HAL hx0 hx1 hx2)
        | (go_at_call 47; refine (HA1.out.put16 p1 (by have := HYL.out; simp only [List.length_append, be_len2]; omega) (by omega) (by omega)).mono ?_; rintro e wb ⟨rfl, hq⟩; have HA2 := Aside0.mk hq; have hd2 := hq.cell List.mem_cons_self 2; simp only [List.getElem?_toArray, List.getElem?_cons_zero, List.getElem?_cons_succ] at hd2; clear hq HA1 hd1)
        | (go_at_call 47; refine (HA2.out.put16 p2 (by have := HYL.out; simp only [List.length_append, be_len2]; omega) (by omega) (by omega)).mono ?_; rintro e wc ⟨rfl, hq⟩; have HA3 := Aside0.mk (hq.sub (fun p hp => List.mem_cons_of_mem _ hp)); clear hq HA2 hd2))
      go_roundw
      case rel => exact ⟨j + 1, _, by go_num, by omega, HA3, HQ2, ⟨by have := HL.out; simp only [List.length_append, be_len2]; omega⟩⟩
      case measure => simp [RowKit.intOf]; omega
    · obtain rfl : j = n := by omega
      have hFN : Y = FIN := by
        have h := HQ.out
        rw [List.drop_of_length_le (by rw [HN.out]; exact Nat.le_refl _), List.flatMap_nil, List.append_nil] at h
        exact h
      rw [hFN] at HP HL
      clear HQ hFN
      go_wp2_with (go_at_call 48; refine (HP.out.all (by have := HL.out; omega)).mono ?_; rintro e w7 ⟨v, rfl, hR, hB⟩; have HR7 := Aside0.mk (Kd.R_lower hR HP.out.base_le); have HB7 := Aside0.mk (below_then HP.out.bel HP.out.base_le hB); clear hR hB)
      go_ret2
      exact ⟨_, rfl, HR7.out, HB7.out⟩
end Go.Proofs.Ytmppdgjnibamlab.Pag
