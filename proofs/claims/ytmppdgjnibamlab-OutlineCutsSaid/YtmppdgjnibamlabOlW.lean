/- outline.Write: the contract, in the print's form. No condition but its own premises. -/
import Derived.Test.YtmppdgjnibamlabOlC
import Derived.Deep.RegionHeld3
import Derived.Deep.QuietTactic
import Derived.BigQuiet
namespace Go.Proofs.Ytmppdgjnibamlab.Pag
open Go.RowKit Go.Proofs.Ytmppdgjnibamlab.POl Go.Proofs.YtmppdgjnibamlabW.PrintWords
set_option linter.unusedVariables false
set_option linter.unusedSimpArgs false

theorem endsO_range : ∀ (cs : List (List Pt)) (n : Int), -1 ≤ n → n + (cs.flatten.length : Int) ≤ 1000 → ∀ e ∈ endsO cs n, -1 ≤ e ∧ e ≤ 1000
  | [], _, _, _, e, he => by simp [endsO] at he
  | c :: r, n, h0, h1, e, he => by
    rw [List.flatten_cons, List.length_append] at h1
    rcases List.mem_cons.1 he with rfl | he
    · omega
    · exact endsO_range r (n + (c.length : Int)) (by omega) (by omega) e he
theorem difs_len : ∀ l : List Int, (l.flatMap dif).length ≤ 2 * l.length
  | [] => Nat.le_refl _
  | x :: r => by
    have h1 := difs_len r
    have h2 := dif_len x
    rw [List.flatMap_cons, List.length_append, List.length_cons]; omega
theorem sz_alloc (w : World) (o : Obj) : (w.alloc o).heap.size = w.heap.size + 1 := by simp [World.alloc_eq]
theorem sz_drewN (w : World) (n : Nat) : (w.drewN n).heap.size = w.heap.size := rfl
theorem sz_drew (w : World) : w.drew.heap.size = w.heap.size := rfl
theorem heap_new_at (w : World) (o : Obj) (b : Nat) (h : b = w.heap.size) : (w.alloc o).heap[b]? = some o := by subst h; exact heap_alloc_new w o
theorem endsB_len : ∀ l : List Int, (l.flatMap (fun e => be e 2)).length = 2 * l.length
  | [] => rfl
  | x :: r => by
    have := endsB_len r
    rw [List.flatMap_cons, List.length_append, be_len2, this, List.length_cons]; omega
set_option maxHeartbeats 4000000 in
set_option maxRecDepth 100000 in
theorem Write_cons (A0 A1 : Option Addr) (c0 c1 : Nat) (cs : List (List Pt)) (w : World) (hr0 : Kd.C (Kd.slice 40 k40) w A0 cs.length cs) (hc0 : cs.length ≤ c0) (hr1 : Kd.C k82 w A1 0 ([] : List Pr)) (hc1 : 0 ≤ c1) (hcl : ∀ c ∈ cs, c.length ≤ 1000000000000) (hf : fmO cs [] = true) (R : List Int × Int) (hR : R = if (stp 0 0 cs.flatten).all okS = true then (wrC cs, 0) else ([], 4)) :
    Calls Try.prog 16 #[.agg #[.slice A0 cs.length c0, .slice A1 0 c1]] w fun e w' => ∃ v0_ : Value, e = .returned (.tuple #[v0_, .int .i64 R.2]) ∧ Kd.R (Kd.int .u8) 5 w' w.heap.size (fun _ => True) v0_ R.1 ∧ Below w.heap.size w w' := by
  obtain ⟨kf, hkf⟩ := (formed_ev cs [] hcl).rounds
  rw [hf] at hkf
  have hfacts := fmO_facts hf
  have hn80 := hfacts.pts
  have hm10 := hfacts.con
  obtain ⟨kp, hkp⟩ := (pts_ev cs [] (by omega) (by omega)).rounds
  obtain ⟨ke, hke⟩ := (ends_ev cs [] (by omega) (by omega)).rounds
  have HIN := Aside0.mk hfacts.inn
  have HFM := Aside0.mk (fun (W : World) (hb : Below w.heap.size w W) => outline_Formed.calls kf A0 c0 cs A1 c1 [] true W (Kd.C_below hr0 hb) hc0 (Kd.C_below hr1 hb) hc1 hkf)
  have HPO := Aside0.mk (fun (W : World) (hb : Below w.heap.size w W) => outline_Points.calls kp A0 c0 cs A1 c1 [] cs.flatten W (Kd.C_below hr0 hb) hc0 (Kd.C_below hr1 hb) hc1 hkp)
  have HEN := Aside0.mk (fun (W : World) (hb : Below w.heap.size w W) => outline_Ends.calls ke A0 c0 cs A1 c1 [] (endsO cs (-1)) W (Kd.C_below hr0 hb) hc0 (Kd.C_below hr1 hb) hc1 hke)
  have HER := Aside0.mk (endsO_range cs (-1) (by omega) (by omega))
  have hel := endsO_len cs (-1)
  unfold wrC at hR
  clear hkf hkp hke hr0 hr1 hc0 hc1 hcl hf hfacts
  obtain ⟨m, hm⟩ : ∃ m, cs.length = m := ⟨_, rfl⟩
  obtain ⟨l, hl⟩ : ∃ l, cs.flatten = l := ⟨_, rfl⟩
  obtain ⟨ens, hens⟩ : ∃ e, endsO cs (-1) = e := ⟨_, rfl⟩
  rw [hl] at hR hn80 HIN HPO
  rw [hens] at hR HEN HER hel
  rw [hm] at hR hm10 HFM HPO HEN hel ⊢
  clear hl hens hm
  obtain ⟨sts, hsts⟩ : ∃ s, stp 0 0 l = s := ⟨_, rfl⟩
  have hsl : sts.length = l.length := by rw [← hsts, stp_len]
  rw [hsts] at hR
  obtain ⟨n, hn⟩ : ∃ n, l.length = n := ⟨_, rfl⟩
  rw [hn] at hsl hn80
  have HLN := Aside0.mk hn
  have HSL := Aside0.mk hsl
  have HEL := Aside0.mk hel
  have HST0 : Aside0 (stp 0 0 (l.drop 0) = sts.drop 0) := ⟨hsts⟩
  clear hsl hel hn hsts
  obtain ⟨E1, hE1⟩ : ∃ E1, be (m : Int) 2 ++ ens.flatMap (fun e => be e 2) = E1 := ⟨_, rfl⟩
  have HEL1 : Aside0 (E1.length ≤ 22) := ⟨by rw [← hE1, List.length_append, be_len2, endsB_len, HEL.out]; omega⟩
  have HRR := Aside0.mk hR
  have HE1 := Aside0.mk hE1
  clear hR hE1
  obtain ⟨Y1, hY1⟩ : ∃ Y, be (m : Int) 2 = Y := ⟨_, rfl⟩
  have HY1L : Aside0 (Y1.length = 2) := ⟨by rw [← hY1, be_len2]⟩
  have HY1 := Aside0.mk hY1
  have HQ0 : Aside0 (Y1 ++ (ens.drop 0).flatMap (fun e => be e 2) = E1) := ⟨by rw [← hY1]; exact HE1.out⟩
  clear hY1
  go_enter Try.func16, Try.ntmps16
  go_wp2_with (first
    | ((with_reducible refine gate_dst (N := 1) rfl ?_); refine box_event ?hg (N := 1) ?hd (cs := #[.slice A0 m c0, .slice A1 0 c1]) (t := 25) ?hr ?_; (case hd => rfl); (case hg => rfl); (case hr => first | (go_simp; done) | (go_simp; rfl)); intro gb hg w1 hbox hb; have HB1 := Aside0.mk (below_step (Below.refl w.heap.size w) hb); have HBX := Aside0.mk hbox; have hcz0 : w1.cell? ⟨gb, 0, none⟩ = some (.slice A0 m c0) := (blk_cell hbox 0).trans rfl; have hcz1 : w1.cell? ⟨gb, 1, none⟩ = some (.slice A1 0 c1) := (blk_cell hbox 1).trans rfl; clear hg hbox hb)
    | (go_at_call 22; refine (HFM.out _ HB1.out).mono ?_; rintro e w2 ⟨rfl, hb⟩; have HB2 := Aside0.mk (below_then HB1.out HB1.out.size hb); have HBX2 := Aside0.mk ((hb.block gb (Array.getElem?_eq_some_iff.1 HBX.out).1).trans HBX.out); have HP0 := Aside0.mk (Hp.new3 HB2.out HB2.out.size HBX2.out); have hd1 := HP0.out.cell (List.mem_singleton.2 rfl) 1; have hd0 := HP0.out.cell (List.mem_singleton.2 rfl) 0; simp only [List.getElem?_toArray, List.getElem?_cons_zero, List.getElem?_cons_succ] at hd1 hd0; clear hb HB1 HFM hcz0 hcz1 HBX HBX2)
    | (go_at_call 47; refine (HP0.out.put16 (m : Int) (by simp) (by omega) (by omega)).mono ?_; rintro e w3 ⟨rfl, hq⟩; rw [HY1.out, List.nil_append] at hq; have HP1 := Aside0.mk hq; have hd1 := hq.cell (List.mem_singleton.2 rfl) 1; have hd0 := hq.cell (List.mem_singleton.2 rfl) 0; simp only [List.getElem?_toArray, List.getElem?_cons_zero, List.getElem?_cons_succ] at hd1 hd0; clear hq HP0)
    | (go_at_call 49; refine (HEN.out _ HP1.out.bel).mono ?_; rintro e w4 ⟨ve, rfl, hR, hB⟩; have hown := (R_own1 hR).1; obtain ⟨Ae, ce, rfl⟩ := own_slice hown; have HP2 := Aside0.mk (HP1.out.addrow hB hown); rw [HEL.out] at HP2; rw [HEL.out]; clear hown hR hB HP1 HEN hd0 hd1))
  obtain ⟨BX, hBX⟩ : ∃ BX : Nat × Obj, (gb, Obj.cells #[.slice A0 m c0, .slice A1 0 c1] 25 (0, 0)) = BX := ⟨_, rfl⟩
  have HBX := Aside0.mk hBX
  rw [hBX] at HP2
  clear hBX
  go_loopw [68] (fun i wr => ∃ (j : Nat) (Y : List Int), i = .int .i64 (j : Int) ∧ j ≤ m ∧ Aside0 (Hp w wr w.heap.size w2.heap.size Y [(.slice Ae m ce, ens)] [BX]) ∧ Aside0 (Y ++ (ens.drop j).flatMap (fun e => be e 2) = E1) ∧ Aside0 (Y.length = 2 + 2 * j)) (fun i _ => m - (RowKit.intOf i).toNat)
  case atStart => exact ⟨0, _, rfl, by omega, HP2, HQ0, ⟨by have := HY1L.out; omega⟩⟩
  case round =>
    obtain ⟨j, Y, rfl, hj, HP, HQ, HL⟩ := hrel
    clear HP2 HQ0 HY1L
    obtain ⟨wo, rfl⟩ : ∃ wo : World, wo = wr := ⟨_, rfl⟩
    by_cases hlt : j < m
    · have hq0 : (0 : Int) ≤ (j : Int) := by omega
      have hq1 : (j : Int) < (m : Int) := by omega
      have hje : j < ens.length := by rw [HEL.out]; exact hlt
      have hrow := HP.out.row (r := (.slice Ae m ce, ens)) List.mem_cons_self
      rw [HEL.out] at hrow
      obtain ⟨ge, rfl⟩ := row_form hrow (by omega)
      have hce := row_cell (xs := ens) (c := ce) (by rw [HEL.out]; exact hrow) j hje
      have her := HER.out ens[j] (List.getElem_mem hje)
      have hQ := HQ.out
      rw [List.drop_eq_getElem_cons hje, List.flatMap_cons] at hQ
      obtain ⟨x, hx⟩ : ∃ x, ens[j] = x := ⟨_, rfl⟩
      rw [hx] at hce her hQ
      obtain ⟨her0, her1⟩ := her
      have HQ2 : Aside0 (Y ++ be x 2 ++ (ens.drop (j + 1)).flatMap (fun e => be e 2) = E1) := ⟨by rw [List.append_assoc]; exact hQ⟩
      have HYL := Aside0.mk (show Y.length ≤ 100 by have := HL.out; omega)
      clear hQ HQ hx hje hrow
      go_wp2_with (go_at_call 47; refine (HP.out.put16 x (by have := HYL.out; omega) (by omega) (by omega)).mono ?_; rintro e wa ⟨rfl, hq⟩; have HA1 := Aside0.mk hq; clear hq HP hce)
      go_roundw
      case rel => exact ⟨j + 1, _, by go_num, by omega, HA1, HQ2, ⟨by have := HL.out; simp only [List.length_append, be_len2]; omega⟩⟩
      case measure => simp [RowKit.intOf]; omega
    · obtain rfl : j = m := by omega
      have hFN : Y = E1 := by
        have h := HQ.out
        rw [List.drop_of_length_le (by rw [HEL.out]; exact Nat.le_refl _), List.flatMap_nil, List.append_nil] at h
        exact h
      rw [hFN] at HP
      clear HQ hFN HL
      have HP3 := Aside0.mk (HP.out.tail.nil.nil.nil)
      have HLA := Aside0.mk (HP3.out.alloc (.cells #[.int .i64 0, .int .i64 0, .bool false] 40))
      have hd0 := HLA.out.cellE HBX.out (by simp) 0
      have hd1 := HLA.out.cellE HBX.out (by simp) 1
      simp only [List.getElem?_toArray, List.getElem?_cons_zero, List.getElem?_cons_succ] at hd1 hd0
      have HGB := Aside0.mk (show BX.1 < wo.heap.size from (Array.getElem?_eq_some_iff.1 (HP.out.blk (p := BX) (by simp))).1)
      have HBL := Aside0.mk HP.out.base_le
      clear HP HP3
      go_wp2_with (go_at_call 24; refine (HPO.out _ HLA.out.bel).mono ?_; rintro e w6 ⟨vp, rfl, hR, hB⟩; obtain ⟨Ap, cp, PB, rfl, hle, hP, hPB, hC⟩ := HLA.out.addC hB hR; rw [HLN.out] at hle hC; rw [HLN.out]; have HP6 := Aside0.mk hP; have HCP := Aside0.mk hC; have HPB := Aside0.mk hPB; clear hle hP hC hPB hR hB HLA HPO hd0 hd1)
      have HPN : Aside0 (∀ p ∈ PB ++ [BX], p.1 ≠ wo.heap.size) := ⟨fun p hp => by
        rcases List.mem_append.1 hp with hp | hp
        · have h1 := HPB.out p hp
          have h2 : wo.heap.size < (wo.alloc (.cells #[.int .i64 0, .int .i64 0, .bool false] 40)).heap.size := (Array.getElem?_eq_some_iff.1 (heap_alloc_new wo _)).1
          omega
        · obtain rfl := List.mem_singleton.1 hp
          have := HGB.out
          omega⟩
      obtain ⟨bl, hbl⟩ : ∃ b, wo.heap.size = b := ⟨_, rfl⟩
      have HP7 := Aside0.mk (HP6.out.sub (blks' := (wo.heap.size, .cells #[.int .i64 0, .int .i64 0, .bool false] 40) :: (PB ++ [BX])) (fun p hp => by simp only [List.mem_cons, List.mem_append, List.mem_singleton, List.not_mem_nil, or_false] at hp ⊢; rcases hp with h | h | h <;> simp [h]))
      rw [hbl] at HP7 HPN HBL
      simp only [hbl]
      clear hbl HP6 HGB HPB
      go_loopw [9, 10, 11, 80] (fun v1 v2 v3 i wr => ∃ (j : Nat) (a b : Int) (o : Bool), i = .int .i64 (j : Int) ∧ j ≤ n ∧ Aside0 (Hp w wr w.heap.size w2.heap.size E1 [(v1, (sts.take j).map flagOf), (v2, (sts.take j).map (·.1)), (v3, (sts.take j).map (·.2.1))] ((bl, .cells #[.int .i64 a, .int .i64 b, .bool o] 40) :: (PB ++ [BX]))) ∧ Aside0 (stp a b (l.drop j) = sts.drop j) ∧ Aside0 ((sts.take j).all okS = true) ∧ Aside0 (-32768 ≤ a ∧ a ≤ 32767 ∧ -32768 ≤ b ∧ b ≤ 32767)) (fun _ _ _ i _ => n - (RowKit.intOf i).toNat)
      case atStart => exact ⟨0, 0, 0, false, rfl, by omega, HP7, HST0, ⟨rfl⟩, ⟨by omega⟩⟩
      case round =>
        obtain ⟨j3, a, b, o, rfl, hj, HP, HST, HOK, HAB⟩ := hrel
        clear HP7 HST0
        obtain ⟨wq, rfl⟩ : ∃ wq : World, wq = wr := ⟨_, rfl⟩
        by_cases hlt : j3 < n
        · have hq0 : (0 : Int) ≤ (j3 : Int) := by omega
          have hq1 : (j3 : Int) < (n : Int) := by omega
          have hjl : j3 < l.length := by rw [HLN.out]; exact hlt
          have hjs : j3 < sts.length := by rw [HSL.out]; exact hlt
          obtain ⟨ad, had, hx0, hx1, hx2⟩ := at_T40 (HCP.out wq (fun p hp => HP.out.blk (by simp [hp]))) (j3 : Int) hq0 hq1
          subst had
          rw [rdP hjl] at hx0 hx1 hx2
          have hin := HIN.out l[j3] (List.getElem_mem hjl)
          have hst := HST.out
          rw [List.drop_eq_getElem_cons hjl, List.drop_eq_getElem_cons hjs, stp] at hst
          obtain ⟨hs1, hs2⟩ := List.cons.inj hst
          have HTK : Aside0 (sts.take (j3 + 1) = sts.take j3 ++ [sts[j3]]) := ⟨by rw [List.take_succ_eq_append_getElem hjs]⟩
          have HALL : Aside0 (∀ s, sts[j3] = s → okS s = false → sts.all okS = false) := ⟨fun s hs hf => by
            rw [List.all_eq_false]
            exact ⟨sts[j3], List.getElem_mem hjs, by rw [hs, hf]; decide⟩⟩
          obtain ⟨p, hpe⟩ : ∃ p, l[j3] = p := ⟨_, rfl⟩
          rw [hpe] at hx0 hx1 hx2 hin hs1 hs2
          obtain ⟨s, hse⟩ : ∃ s, sts[j3] = s := ⟨_, rfl⟩
          rw [hse] at hs1 HTK
          have HAL2 := Aside0.mk (HALL.out s hse)
          clear hpe hjl hst hse hjs HALL
          obtain ⟨px, py, po⟩ := p
          simp only at hx0 hx1 hx2 hin hs1 hs2
          simp only [Int.toNat_natCast] at hx0 hx1 hx2
          obtain ⟨g0, g1, g2, g3⟩ := hin
          obtain ⟨g4, g5, g6, g7⟩ := HAB.out
          have HS2 := Aside0.mk hs2
          have HIN2 : Aside0 (-32768 ≤ px ∧ px ≤ 32767 ∧ -32768 ≤ py ∧ py ≤ 32767) := ⟨⟨g0, g1, g2, g3⟩⟩
          obtain ⟨dx, hdx⟩ : ∃ d, px - a = d := ⟨_, rfl⟩
          obtain ⟨dy, hdy⟩ : ∃ d, py - b = d := ⟨_, rfl⟩
          have hwx : IntKind.i64.wrap (px - a) = dx := by rw [← hdx]; simp [IntKind.wrap, IntKind.bits, IntKind.signed]; omega
          have hwy : IntKind.i64.wrap (py - b) = dy := by rw [← hdy]; simp [IntKind.wrap, IntKind.bits, IntKind.signed]; omega
          rw [hdx, hdy] at hs1
          subst hs1
          have HX := Aside0.mk (HP.out.alloc (.cells #[.int .i64 px, .int .i64 py, .bool po] 40))
          have HPN2 : Aside0 (∀ po : Bool, ∀ p ∈ ((wq.heap.size, Obj.cells #[.int .i64 px, .int .i64 py, .bool po] 40 (0, 0)) :: (PB ++ [BX])), p.1 ≠ bl) := ⟨fun po p hp => by
            rcases List.mem_cons.1 hp with rfl | hp
            · have h1 := HP.out.blk List.mem_cons_self
              have h2 := (Array.getElem?_eq_some_iff.1 h1).1
              simp only at h2 ⊢
              omega
            · exact HPN.out p hp⟩
          have hk0 := HX.out.cell List.mem_cons_self 0
          have hk1 := HX.out.cell List.mem_cons_self 1
          have hk2 := HX.out.cell List.mem_cons_self 2
          have hl0 := HX.out.cell (List.mem_cons_of_mem _ List.mem_cons_self) 0
          have hl1 := HX.out.cell (List.mem_cons_of_mem _ List.mem_cons_self) 1
          have hl2 := HX.out.cell (List.mem_cons_of_mem _ List.mem_cons_self) 2
          simp only [List.getElem?_toArray, List.getElem?_cons_zero, List.getElem?_cons_succ] at hk0 hk1 hk2 hl0 hl1 hl2
          clear hs2 HAB HST g0 g1 g2 g3 g4 g5 g6 g7 hdx hdy
          obtain ⟨kd, hkd⟩ := (field_ev dx dy).rounds
          have HFD := Aside0.mk (fun (W : World) (b : Nat) (hb : W.heap[b]? = some (.cells #[.int .i64 dx, .int .i64 dy] 3 (0, 0))) => outline_field.calls kd (some ⟨b, 0, none⟩) 2 [dx, dy] (inF dx && inF dy) W (reads_C (reads_block (ys := [dx, dy]) (t := 3) hb (by simp))) (Nat.le_refl _) hkd)
          obtain ⟨kx, hkx⟩ := (flag_ev dx 2 16 (.inl ⟨rfl, rfl⟩)).rounds
          obtain ⟨ky, hky⟩ := (flag_ev dy 4 32 (.inr ⟨rfl, rfl⟩)).rounds
          have HFX := Aside0.mk (fun (W : World) => outline_flag.calls kx dx 2 16 _ W hkx)
          have HFY := Aside0.mk (fun (W : World) => outline_flag.calls ky dy 4 32 _ W hky)
          clear hkd hkx hky
          go_wp2
          go_quiet (fail)
          cases hok : (inF dx && inF dy) with
          | false =>
            rw [hok] at HFD
            have HRE : Aside0 (R = ([], 4)) := ⟨by rw [HRR.out, if_neg (by rw [HAL2.out hok]; decide)]⟩
            go_wp2_with (go_at_call 50; refine (HFD.out _ _ ?hb).mono ?_; (case hb => exact heap_new_at _ _ _ (by simp only [sz_alloc, sz_drewN, sz_drew])); rintro e w7 ⟨rfl, hd⟩; have HPF := Aside0.mk (Hp.drawn0 (by repeat (first | exact HX.out | apply Hp.drewN | apply Hp.drew | apply Hp.alloc')) hd); clear hd)
            rw [HRE.out]
            go_ret2
            exact ⟨_, rfl, Kd.R_nil _ _ _ _ _, HPF.out.bel⟩
          | true =>
            rw [hok] at HFD
            have hfb := flag_bits (dx, dy, po)
            simp only at hfb
            obtain ⟨fl, hfl⟩ : ∃ f, flagOf (dx, dy, po) = f := ⟨_, rfl⟩
            have HFL := Aside0.mk hfl
            rw [hfl] at hfb
            have hf0 : po = false → fl = flg dx 2 16 + flg dy 4 32 := fun h => by rw [← hfl]; simp [flagOf, h]
            obtain ⟨fx, hfx⟩ : ∃ f, flg dx 2 16 = f := ⟨_, rfl⟩
            obtain ⟨fy, hfy⟩ : ∃ f, flg dy 4 32 = f := ⟨_, rfl⟩
            rw [hfx, hfy] at hfb hf0
            rw [hfx] at HFX
            rw [hfy] at HFY
            obtain ⟨fxy, hfxy⟩ : ∃ f, Go.bits .or .i64 fx fy = f := ⟨_, rfl⟩
            have hfb1 : fx + fy = fxy := by rw [← hfxy, hfb.1]
            rw [hfb1] at hfb hf0
            have HFX1 := Aside0.mk hfxy
            have HPO1 := Aside0.mk hf0
            have HPO2 := Aside0.mk hfb.2.1
            clear hfb hf0 hfx hfy hfl hfb1 hfxy
            have HTK2 := Aside0.mk (show sts.take (j3 + 1) = sts.take j3 ++ [(dx, dy, po)] from HTK.out)
            have HOK2 : Aside0 ((sts.take (j3 + 1)).all okS = true) := ⟨by rw [HTK2.out, List.all_append, HOK.out]; simp only [List.all_cons, List.all_nil, okS]; rw [hok]; rfl⟩
            have HCL : Aside0 (∀ (W : World) (v1 v2 v3 : Value) (B : Nat × Obj), Hp w W w.heap.size w2.heap.size E1 [(v3, (sts.take j3).map (·.2.1) ++ [dy]), (v2, (sts.take j3).map (·.1) ++ [dx]), (v1, (sts.take j3).map flagOf ++ [fl])] ((bl, Obj.cells #[.int .i64 px, .int .i64 py, .bool po] 40 (0, 0)) :: B :: (PB ++ [BX])) →
                Hp w W w.heap.size w2.heap.size E1 [(v1, (sts.take (j3 + 1)).map flagOf), (v2, (sts.take (j3 + 1)).map (·.1)), (v3, (sts.take (j3 + 1)).map (·.2.1))] ((bl, Obj.cells #[.int .i64 px, .int .i64 py, .bool po] 40 (0, 0)) :: (PB ++ [BX]))) := ⟨fun W v1 v2 v3 B h => by
              rw [HTK2.out]
              simp only [List.map_append, List.map_cons, List.map_nil]
              rw [HFL.out]
              exact (h.perm (List.Perm.trans (List.Perm.cons _ (List.Perm.swap _ _ _)) (List.Perm.trans (List.Perm.swap _ _ _) (List.Perm.cons _ (List.Perm.swap _ _ _))))).sub (fun p hp => by simp only [List.mem_cons] at hp ⊢; rcases hp with h | h <;> simp only [h, true_or, or_true])⟩
            clear HTK HTK2 HOK HFL HAL2 hok
            go_upto_if 105 with (first
              | (go_at_call 50; refine (HFD.out _ _ ?hb).mono ?_; (case hb => exact heap_new_at _ _ _ (by simp only [sz_alloc, sz_drewN, sz_drew])); rintro e w7 ⟨rfl, hd⟩; have HPF := Aside0.mk (Hp.drawn0 (by repeat (first | exact HX.out | apply Hp.drewN | apply Hp.drew | apply Hp.alloc')) hd); clear hd hk0 hk1 hk2 hl0 hl1 hl2)
              | (go_at_call 51; refine (HFX.out _).mono ?_; rintro e w8 ⟨rfl, hd⟩; have HPG := Aside0.mk (HPF.out.drawn0 hd); clear hd HFX HPF)
              | (go_at_call 51; refine (HFY.out _).mono ?_; rintro e w9 ⟨rfl, hd⟩; have HPH := Aside0.mk (HPG.out.drawn0 hd); have hk0 := HPH.out.cell List.mem_cons_self 0; have hk1 := HPH.out.cell List.mem_cons_self 1; have hk2 := HPH.out.cell List.mem_cons_self 2; simp only [List.getElem?_toArray, List.getElem?_cons_zero, List.getElem?_cons_succ] at hk0 hk1 hk2; clear hd HFY HPG))
            go_cut [17] (fun v17 wc => v17 = .int .i64 fl ∧ w9 = wc)
            case first =>
              cases po with
              | false =>
                obtain rfl := HPO1.out rfl
                go_wp2
                go_meet
                case rel => exact ⟨by rw [HFX1.out], rfl⟩
              | true =>
                have hq := HPO2.out rfl
                go_wp2
                go_meet
                case rel => exact ⟨by rw [HFX1.out, hq], rfl⟩
            case rest =>
              obtain ⟨rfl, rfl⟩ := hcut
              clear HPO1 HPO2 HFX1 hx0 hx1 hx2 HX
              go_upto_region 32 with (fail)
              go_region_held3 (fun w' => w'.cell? ⟨wq.heap.size, 0, none⟩ = some (.int .i64 px) ∧ w'.cell? ⟨wq.heap.size, 1, none⟩ = some (.int .i64 py) ∧ w'.cell? ⟨wq.heap.size, 2, none⟩ = some (.bool po)) (first | exact ⟨hk0, hk1, hk2⟩ | exact ⟨hs0, hs1, hs2⟩ | exact Hp.x3 (HPH.out.drew) wq.heap.size (.int .i64 px) (.int .i64 py) (.bool po) 40 (by simp) | exact Hp.x3 ((HPH.out.alloc _).drew) wq.heap.size (.int .i64 px) (.int .i64 py) (.bool po) 40 (by simp) | exact Hp.x3 (((HPH.out.alloc _).alloc _).drew) wq.heap.size (.int .i64 px) (.int .i64 py) (.bool po) 40 (by simp) | exact Hp.x3 ((((HPH.out.alloc _).alloc _).alloc _).drew) wq.heap.size (.int .i64 px) (.int .i64 py) (.bool po) 40 (by simp) | exact Hp.x3 ((HA1.out.alloc _)) wq.heap.size (.int .i64 px) (.int .i64 py) (.bool po) 40 (by simp) | exact Hp.x3 (((HA1.out.alloc _).alloc _)) wq.heap.size (.int .i64 px) (.int .i64 py) (.bool po) 40 (by simp) | exact Hp.x3 ((HA2.out.alloc _)) wq.heap.size (.int .i64 px) (.int .i64 py) (.bool po) 40 (by simp) | exact Hp.x3 (((HA2.out.alloc _).alloc _)) wq.heap.size (.int .i64 px) (.int .i64 py) (.bool po) 40 (by simp) | go_keep) (first
              -- ARMS po
                | (refine Hp.step rfl (.tmp 108) (.tmp 110) rfl ((HPH.out.alloc _).drew) _ _ _ (List.Perm.refl _) rfl _ (fl) rfl ?hb ?hl ?_; (case hb => simp [sz_alloc, sz_drewN, sz_drew]); (case hl => simp only [List.length_map, List.length_take]; omega); intro vHA1 wHA1 hq; have HA1 := Aside0.mk hq; have HM := hq.cells3 (b := wq.heap.size) (x := .int .i64 px) (y := .int .i64 py) (z := .bool po) (t := 40) (by simp); obtain ⟨hk0, hk1, hk2, -⟩ := HM; clear hq HPH)
                | (refine Hp.step rfl (.tmp 108) (.tmp 110) rfl ((HPH.out.drew).alloc _) _ _ _ (List.Perm.refl _) rfl _ (fl) rfl ?hb ?hl ?_; (case hb => simp [sz_alloc, sz_drewN, sz_drew]); (case hl => simp only [List.length_map, List.length_take]; omega); intro vHA1 wHA1 hq; have HA1 := Aside0.mk hq; have HM := hq.cells3 (b := wq.heap.size) (x := .int .i64 px) (y := .int .i64 py) (z := .bool po) (t := 40) (by simp); obtain ⟨hk0, hk1, hk2, -⟩ := HM; clear hq HPH)
                | (refine Hp.step rfl (.tmp 108) (.tmp 110) rfl (((HPH.out.alloc _).alloc _).drew) _ _ _ (List.Perm.refl _) rfl _ (fl) rfl ?hb ?hl ?_; (case hb => simp [sz_alloc, sz_drewN, sz_drew]); (case hl => simp only [List.length_map, List.length_take]; omega); intro vHA1 wHA1 hq; have HA1 := Aside0.mk hq; have HM := hq.cells3 (b := wq.heap.size) (x := .int .i64 px) (y := .int .i64 py) (z := .bool po) (t := 40) (by simp); obtain ⟨hk0, hk1, hk2, -⟩ := HM; clear hq HPH)
                | (refine Hp.step rfl (.tmp 108) (.tmp 110) rfl (((HPH.out.drew).alloc _).alloc _) _ _ _ (List.Perm.refl _) rfl _ (fl) rfl ?hb ?hl ?_; (case hb => simp [sz_alloc, sz_drewN, sz_drew]); (case hl => simp only [List.length_map, List.length_take]; omega); intro vHA1 wHA1 hq; have HA1 := Aside0.mk hq; have HM := hq.cells3 (b := wq.heap.size) (x := .int .i64 px) (y := .int .i64 py) (z := .bool po) (t := 40) (by simp); obtain ⟨hk0, hk1, hk2, -⟩ := HM; clear hq HPH)
                | (refine Hp.step rfl (.tmp 108) (.tmp 110) rfl ((((HPH.out.alloc _).alloc _).alloc _).drew) _ _ _ (List.Perm.refl _) rfl _ (fl) rfl ?hb ?hl ?_; (case hb => simp [sz_alloc, sz_drewN, sz_drew]); (case hl => simp only [List.length_map, List.length_take]; omega); intro vHA1 wHA1 hq; have HA1 := Aside0.mk hq; have HM := hq.cells3 (b := wq.heap.size) (x := .int .i64 px) (y := .int .i64 py) (z := .bool po) (t := 40) (by simp); obtain ⟨hk0, hk1, hk2, -⟩ := HM; clear hq HPH)
                | (refine Hp.step rfl (.tmp 108) (.tmp 110) rfl ((((HPH.out.drew).alloc _).alloc _).alloc _) _ _ _ (List.Perm.refl _) rfl _ (fl) rfl ?hb ?hl ?_; (case hb => simp [sz_alloc, sz_drewN, sz_drew]); (case hl => simp only [List.length_map, List.length_take]; omega); intro vHA1 wHA1 hq; have HA1 := Aside0.mk hq; have HM := hq.cells3 (b := wq.heap.size) (x := .int .i64 px) (y := .int .i64 py) (z := .bool po) (t := 40) (by simp); obtain ⟨hk0, hk1, hk2, -⟩ := HM; clear hq HPH)
                | (refine Hp.step rfl (.tmp 112) (.tmp 114) rfl HA1.out _ _ _ (List.Perm.swap _ _ _) rfl _ (dx) rfl ?hb ?hl ?_; (case hb => simp [sz_alloc, sz_drewN, sz_drew]); (case hl => simp only [List.length_map, List.length_take]; omega); intro vHA2 wHA2 hq; have HA2 := Aside0.mk hq; have HM := hq.cells3 (b := wq.heap.size) (x := .int .i64 px) (y := .int .i64 py) (z := .bool po) (t := 40) (by simp); obtain ⟨hk0, hk1, hk2, -⟩ := HM; clear hq HA1)
                | (refine Hp.step rfl (.tmp 112) (.tmp 114) rfl (HA1.out.alloc _) _ _ _ (List.Perm.swap _ _ _) rfl _ (dx) rfl ?hb ?hl ?_; (case hb => simp [sz_alloc, sz_drewN, sz_drew]); (case hl => simp only [List.length_map, List.length_take]; omega); intro vHA2 wHA2 hq; have HA2 := Aside0.mk hq; have HM := hq.cells3 (b := wq.heap.size) (x := .int .i64 px) (y := .int .i64 py) (z := .bool po) (t := 40) (by simp); obtain ⟨hk0, hk1, hk2, -⟩ := HM; clear hq HA1)
                | (refine Hp.step rfl (.tmp 112) (.tmp 114) rfl ((HA1.out.alloc _).alloc _) _ _ _ (List.Perm.swap _ _ _) rfl _ (dx) rfl ?hb ?hl ?_; (case hb => simp [sz_alloc, sz_drewN, sz_drew]); (case hl => simp only [List.length_map, List.length_take]; omega); intro vHA2 wHA2 hq; have HA2 := Aside0.mk hq; have HM := hq.cells3 (b := wq.heap.size) (x := .int .i64 px) (y := .int .i64 py) (z := .bool po) (t := 40) (by simp); obtain ⟨hk0, hk1, hk2, -⟩ := HM; clear hq HA1)
                | (refine Hp.step rfl (.tmp 116) (.tmp 118) rfl HA2.out _ _ _ (List.Perm.trans (List.Perm.cons _ (List.Perm.swap _ _ _)) (List.Perm.swap _ _ _)) rfl _ (dy) rfl ?hb ?hl ?_; (case hb => simp [sz_alloc, sz_drewN, sz_drew]); (case hl => simp only [List.length_map, List.length_take]; omega); intro vHA3 wHA3 hq; have HA3 := Aside0.mk hq; have HM := hq.cells3 (b := wq.heap.size) (x := .int .i64 px) (y := .int .i64 py) (z := .bool po) (t := 40) (by simp); obtain ⟨hk0, hk1, hk2, -⟩ := HM; have HL := hq.cells3 (b := bl) (x := .int .i64 a) (y := .int .i64 b) (z := .bool o) (t := 40) (by simp); obtain ⟨hl0, hl1, hl2, hz0, hz1, hz2⟩ := HL; have HW := hq.sub (blks' := (bl, .cells #[.int .i64 a, .int .i64 b, .bool o] 40 (0, 0)) :: (wq.heap.size, .cells #[.int .i64 px, .int .i64 py, .bool po] 40 (0, 0)) :: (PB ++ [BX])) (by intro p hp; simp only [List.mem_cons] at hp ⊢; rcases hp with h | h | h <;> simp only [h, true_or, or_true]); have HF := Aside0.mk (HW.set3 HBL.out (HPN2.out _) (.int .i64 px) (.int .i64 py) (.bool po)); have HS := HF.out.cells3 (b := wq.heap.size) (x := .int .i64 px) (y := .int .i64 py) (z := .bool po) (t := 40) (by simp); obtain ⟨hs0, hs1, hs2, -⟩ := HS; clear HW; clear hq HA2)
                | (refine Hp.step rfl (.tmp 116) (.tmp 118) rfl (HA2.out.alloc _) _ _ _ (List.Perm.trans (List.Perm.cons _ (List.Perm.swap _ _ _)) (List.Perm.swap _ _ _)) rfl _ (dy) rfl ?hb ?hl ?_; (case hb => simp [sz_alloc, sz_drewN, sz_drew]); (case hl => simp only [List.length_map, List.length_take]; omega); intro vHA3 wHA3 hq; have HA3 := Aside0.mk hq; have HM := hq.cells3 (b := wq.heap.size) (x := .int .i64 px) (y := .int .i64 py) (z := .bool po) (t := 40) (by simp); obtain ⟨hk0, hk1, hk2, -⟩ := HM; have HL := hq.cells3 (b := bl) (x := .int .i64 a) (y := .int .i64 b) (z := .bool o) (t := 40) (by simp); obtain ⟨hl0, hl1, hl2, hz0, hz1, hz2⟩ := HL; have HW := hq.sub (blks' := (bl, .cells #[.int .i64 a, .int .i64 b, .bool o] 40 (0, 0)) :: (wq.heap.size, .cells #[.int .i64 px, .int .i64 py, .bool po] 40 (0, 0)) :: (PB ++ [BX])) (by intro p hp; simp only [List.mem_cons] at hp ⊢; rcases hp with h | h | h <;> simp only [h, true_or, or_true]); have HF := Aside0.mk (HW.set3 HBL.out (HPN2.out _) (.int .i64 px) (.int .i64 py) (.bool po)); have HS := HF.out.cells3 (b := wq.heap.size) (x := .int .i64 px) (y := .int .i64 py) (z := .bool po) (t := 40) (by simp); obtain ⟨hs0, hs1, hs2, -⟩ := HS; clear HW; clear hq HA2)
                | (refine Hp.step rfl (.tmp 116) (.tmp 118) rfl ((HA2.out.alloc _).alloc _) _ _ _ (List.Perm.trans (List.Perm.cons _ (List.Perm.swap _ _ _)) (List.Perm.swap _ _ _)) rfl _ (dy) rfl ?hb ?hl ?_; (case hb => simp [sz_alloc, sz_drewN, sz_drew]); (case hl => simp only [List.length_map, List.length_take]; omega); intro vHA3 wHA3 hq; have HA3 := Aside0.mk hq; have HM := hq.cells3 (b := wq.heap.size) (x := .int .i64 px) (y := .int .i64 py) (z := .bool po) (t := 40) (by simp); obtain ⟨hk0, hk1, hk2, -⟩ := HM; have HL := hq.cells3 (b := bl) (x := .int .i64 a) (y := .int .i64 b) (z := .bool o) (t := 40) (by simp); obtain ⟨hl0, hl1, hl2, hz0, hz1, hz2⟩ := HL; have HW := hq.sub (blks' := (bl, .cells #[.int .i64 a, .int .i64 b, .bool o] 40 (0, 0)) :: (wq.heap.size, .cells #[.int .i64 px, .int .i64 py, .bool po] 40 (0, 0)) :: (PB ++ [BX])) (by intro p hp; simp only [List.mem_cons] at hp ⊢; rcases hp with h | h | h <;> simp only [h, true_or, or_true]); have HF := Aside0.mk (HW.set3 HBL.out (HPN2.out _) (.int .i64 px) (.int .i64 py) (.bool po)); have HS := HF.out.cells3 (b := wq.heap.size) (x := .int .i64 px) (y := .int .i64 py) (z := .bool po) (t := 40) (by simp); obtain ⟨hs0, hs1, hs2, -⟩ := HS; clear HW; clear hq HA2))
              -- END po
              all_goals go_wp2
              all_goals exact ⟨⟨j3 + 1, px, py, po, by go_num, by omega, ⟨HCL.out _ _ _ _ _ HF.out⟩, HS2, HOK2, HIN2⟩, by simp [RowKit.intOf]; omega⟩
        · obtain rfl : j3 = n := by omega
          have HTA : Aside0 (sts.take j3 = sts) := ⟨List.take_of_length_le (by rw [HSL.out]; exact Nat.le_refl _)⟩
          rw [HTA.out] at HP HOK
          have HRE : Aside0 (R = (E1 ++ rle (sts.map flagOf) ++ (sts.map (·.1)).flatMap dif ++ (sts.map (·.2.1)).flatMap dif, 0)) := ⟨by rw [HRR.out, if_pos HOK.out, HE1.out]⟩
          have HBF : Aside0 (∀ i (h : i < (sts.map flagOf).length), Go.bits .or .i64 (sts.map flagOf)[i] 8 = (sts.map flagOf)[i] + 8 ∧ 0 ≤ (sts.map flagOf)[i] ∧ (sts.map flagOf)[i] ≤ 55) := ⟨fun i h => by
            rw [List.getElem_map]
            have := flag_bits (sts[i]'(by simpa using h))
            exact ⟨this.2.2.1, this.2.2.2.2.2⟩⟩
          have HBX1 : Aside0 (∀ i (h1 : i < (sts.map flagOf).length) (h2 : i < (sts.map (·.1)).length), Go.bits .and .i64 (sts.map flagOf)[i] 18 = flg (sts.map (·.1))[i] 2 16) := ⟨fun i h1 h2 => by
            simp only [List.getElem_map]
            exact (flag_bits (sts[i]'(by simpa using h1))).2.2.2.1⟩
          have HBX2 : Aside0 (∀ i (h1 : i < (sts.map flagOf).length) (h2 : i < (sts.map (·.2.1)).length), Go.bits .and .i64 (sts.map flagOf)[i] 36 = flg (sts.map (·.2.1))[i] 4 32) := ⟨fun i h1 h2 => by
            simp only [List.getElem_map]
            exact (flag_bits (sts[i]'(by simpa using h1))).2.2.2.2.1⟩
          have HDX : Aside0 (∀ d ∈ sts.map (·.1), -32768 ≤ d ∧ d ≤ 32767) := ⟨fun d hd => by
            obtain ⟨s, hs, rfl⟩ := List.mem_map.1 hd
            have := List.all_eq_true.1 HOK.out s hs
            simp only [okS, Bool.and_eq_true, inF_iff] at this
            exact this.1⟩
          have HDY : Aside0 (∀ d ∈ sts.map (·.2.1), -32768 ≤ d ∧ d ≤ 32767) := ⟨fun d hd => by
            obtain ⟨s, hs, rfl⟩ := List.mem_map.1 hd
            have := List.all_eq_true.1 HOK.out s hs
            simp only [okS, Bool.and_eq_true, inF_iff] at this
            exact this.2⟩
          have HFLN : Aside0 ((sts.map flagOf).length = j3) := ⟨by rw [List.length_map, HSL.out]⟩
          have HXLN : Aside0 ((sts.map (·.1)).length = j3) := ⟨by rw [List.length_map, HSL.out]⟩
          have HYLN : Aside0 ((sts.map (·.2.1)).length = j3) := ⟨by rw [List.length_map, HSL.out]⟩
          obtain ⟨fls, hfls⟩ : ∃ x, sts.map flagOf = x := ⟨_, rfl⟩
          obtain ⟨dxs, hdxs⟩ : ∃ x, sts.map (fun s => s.1) = x := ⟨_, rfl⟩
          obtain ⟨dys, hdys⟩ : ∃ x, sts.map (fun s => s.2.1) = x := ⟨_, rfl⟩
          rw [hfls] at HP HRE HBF HBX1 HBX2 HFLN
          rw [hdxs] at HP HRE HBX1 HDX HXLN
          rw [hdys] at HP HRE HBX2 HDY HYLN
          clear hfls hdxs hdys HTA HOK HST HAB HCP HPN HBL HIN HER HLN HSL HRR
          obtain ⟨Af, cf, hvf⟩ := own_slice (HP.out.row List.mem_cons_self)
          obtain ⟨Ax, cx, hvx⟩ := own_slice (HP.out.row (List.mem_cons_of_mem _ List.mem_cons_self))
          obtain ⟨Ay, cy, hvy⟩ := own_slice (HP.out.row (List.mem_cons_of_mem _ (List.mem_cons_of_mem _ List.mem_cons_self)))
          simp only at hvf hvx hvy
          subst hvf hvx hvy
          obtain ⟨BL, hBL⟩ : ∃ B : List (Nat × Obj), (bl, Obj.cells #[.int .i64 a, .int .i64 b, .bool o] 40 (0, 0)) :: (PB ++ [BX]) = B := ⟨_, rfl⟩
          rw [hBL] at HP
          have HRW := Aside0.mk (fun (W : World) (Y : List Int) (h : Hp w W w.heap.size w2.heap.size Y [(.slice Af fls.length cf, fls), (.slice Ax dxs.length cx, dxs), (.slice Ay dys.length cy, dys)] BL) => h.row List.mem_cons_self)
          obtain ⟨RW, hRW⟩ : ∃ r, [(Value.slice Af fls.length cf, fls), (Value.slice Ax dxs.length cx, dxs), (Value.slice Ay dys.length cy, dys)] = r := ⟨_, rfl⟩
          have HM1 : Aside0 ((Value.slice Af fls.length cf, fls) ∈ RW ∧ (Value.slice Ax dxs.length cx, dxs) ∈ RW ∧ (Value.slice Ay dys.length cy, dys) ∈ RW) := ⟨by rw [← hRW]; simp⟩
          rw [hRW] at HP HRW
          clear hBL hRW
          rw [HFLN.out] at HRW HM1
          simp only [HFLN.out, HXLN.out, HYLN.out]
          obtain ⟨E2, hE2⟩ : ∃ E, E1 ++ rle fls = E := ⟨_, rfl⟩
          rw [hE2] at HRE
          have HQ0 : Aside0 (E1 ++ rle (fls.drop 0) = E2) := ⟨hE2⟩
          have HE2L : Aside0 (E2.length ≤ 200) := ⟨by have := rle_len fls.length fls; have := HEL1.out; have := HFLN.out; rw [← hE2, List.length_append]; show _ + (rleN _ _).length ≤ 200; omega⟩
          clear hE2
          go_wp2
          go_loopw [18] (fun i wr => ∃ (q : Nat) (Y : List Int), i = .int .i64 (q : Int) ∧ q ≤ j3 ∧ Aside0 (Hp w wr w.heap.size w2.heap.size Y RW BL) ∧ Aside0 (Y ++ rle (fls.drop q) = E2) ∧ Aside0 (Y.length ≤ 22 + 2 * q)) (fun i _ => j3 - (RowKit.intOf i).toNat)
          case atStart => exact ⟨0, _, rfl, by omega, HP, HQ0, ⟨by have := HEL1.out; omega⟩⟩
          case round =>
            obtain ⟨q, Y, rfl, hq, HP, HQ, HYL⟩ := hrel
            clear HQ0
            obtain ⟨wk, rfl⟩ : ∃ wk : World, wk = wr := ⟨_, rfl⟩
            by_cases hlt : q < j3
            · have hq0 : (0 : Int) ≤ (q : Int) := by omega
              have hq1 : (q : Int) < (j3 : Int) := by omega
              have hqf : q < fls.length := by rw [HFLN.out]; exact hlt
              have hrow := HRW.out wk Y HP.out
              obtain ⟨gf, rfl⟩ := row_form hrow (by omega)
              have hc0 := row_cell (xs := fls) (c := cf) (by rw [HFLN.out]; exact hrow) q hqf
              have hbf := HBF.out q hqf
              have hQ := HQ.out
              rw [List.drop_eq_getElem_cons hqf, rle_cons] at hQ
              obtain ⟨m, hm⟩ : ∃ m, lead fls[q] (fls.drop (q + 1)) = m := ⟨_, rfl⟩
              have hle := lead_le fls[q] (fls.drop (q + 1))
              have HIL := Aside0.mk (fun (d : Nat) (h : d < m) (h2 : q + 1 + d < fls.length) => (show fls[q + 1 + d] = fls[q] by
                have h4 := lead_in fls[q] (fls.drop (q + 1)) d (by rw [hm]; exact h) (by rw [List.length_drop]; omega)
                rw [List.getElem_drop] at h4
                exact h4))
              have HOL := Aside0.mk (fun (h2 : q + 1 + m < fls.length) => (show fls[q + 1 + m] ≠ fls[q] by
                have h4 := lead_out fls[q] (fls.drop (q + 1)) (by rw [hm, List.length_drop]; omega)
                simp only [hm, List.getElem_drop] at h4
                exact h4))
              have HRC := Aside0.mk (fun (W : World) (h : Hp w W w.heap.size w2.heap.size Y RW BL) (d : Nat) (h2 : d < fls.length) => (show W.cell? ⟨gf, d, none⟩ = some (.int .i64 fls[d]) from row_cell (xs := fls) (c := cf) (by have := HRW.out W Y h; rw [HFLN.out]; exact this) d h2))
              rw [hm] at hQ hle
              rw [List.length_drop, HFLN.out] at hle
              rw [List.drop_drop] at hQ
              obtain ⟨f, hfe⟩ : ∃ f, fls[q] = f := ⟨_, rfl⟩
              rw [hfe] at hc0 hbf HIL HOL hQ
              have HFE := Aside0.mk (show ∀ h : q < fls.length, fls[q] = f from fun _ => hfe)
              clear hfe hm hrow
              obtain ⟨hb1, hb2, hb3⟩ := hbf
              have HB8 := Aside0.mk hb1
              have HQ2 := Aside0.mk hQ
              clear hb1 hQ HQ
              obtain ⟨Z, hZ⟩ : ∃ Z, (if m = 0 then be f 1 else be (f + 8) 1 ++ be (m : Int) 1) = Z := ⟨_, rfl⟩
              rw [hZ, ← List.append_assoc] at HQ2
              have HZ0 : Aside0 (m = 0 → be f 1 = Z) := ⟨fun h => by rw [← hZ, if_pos h]⟩
              have HZ1 : Aside0 (m ≠ 0 → be (f + 8) 1 ++ be (m : Int) 1 = Z) := ⟨fun h => by rw [← hZ, if_neg h]⟩
              have HZL : Aside0 (Z.length ≤ 2 ∧ (m = 0 → Z.length = 1)) := ⟨by rw [← hZ]; split <;> rename_i h <;> simp [be_len1, h]⟩
              have HQN : Aside0 (q + 1 + m ≤ j3) := ⟨by omega⟩
              clear hZ
              go_wp2
              go_loopw [19] (fun i wr => ∃ (d : Nat), i = .int .i64 ((q : Int) + 1 + (d : Int)) ∧ d ≤ m ∧ Aside0 (Hp w wr w.heap.size w2.heap.size Y RW BL)) (fun i _ => j3 - (RowKit.intOf i).toNat)
              case atStart => exact ⟨0, by simp, by omega, HP⟩
              case round =>
                obtain ⟨d, rfl, hd, HPD⟩ := hrel
                clear HP hc0
                obtain ⟨wl, rfl⟩ : ∃ wl : World, wl = wr := ⟨_, rfl⟩
                have hq2 := HQN.out
                have hcq : wl.cell? ⟨gf, q, none⟩ = some (.int .i64 f) := by have := HRC.out wl HPD.out q (by rw [HFLN.out]; omega); rw [HFE.out _] at this; exact this
                have hsub : decide (IntKind.i64.wrap ((q : Int) + 1 + (d : Int) - (q : Int)) ≤ 255) = true := by
                  rw [show IntKind.i64.wrap ((q : Int) + 1 + (d : Int) - (q : Int)) = (d : Int) + 1 by simp [IntKind.wrap, IntKind.bits, IntKind.signed]; omega]
                  exact decide_eq_true (by omega)
                have hge0 : (0 : Int) ≤ (q : Int) + 1 + (d : Int) := by omega
                have hadr : ((q : Int) + 1 + (d : Int)).toNat = q + 1 + d := by omega
                by_cases hdm : d < m
                · have hlt2 : (q : Int) + 1 + (d : Int) < (j3 : Int) := by omega
                  have hcd : wl.cell? ⟨gf, q + 1 + d, none⟩ = some (.int .i64 f) := by have := HRC.out wl HPD.out (q + 1 + d) (by rw [HFLN.out]; omega); rw [HIL.out d hdm (by rw [HFLN.out]; omega)] at this; exact this
                  go_wp2
                  go_quiet (fail)
                  go_wp2
                  repeat (go_quiet (fail); try go_wp2)
                  exact ⟨⟨d + 1, by rw [show (q : Int) + 1 + (d : Int) + 1 = (q : Int) + 1 + ((d + 1 : Nat) : Int) by omega], by omega, ⟨HPD.out.drewN _⟩⟩, by simp [RowKit.intOf]; omega⟩
                · obtain rfl : d = m := by omega
                  have hY := HYL.out
                  have HYL2 : Aside0 (Y.length ≤ 1000) := ⟨by omega⟩
                  have HQ4 := Aside0.mk (show Y ++ Z ++ rle (fls.drop (q + 1 + d)) = E2 from HQ2.out)
                  have HSB : Aside0 ((q : Int) + 1 + (d : Int) - (q : Int) - 1 = (d : Int)) := ⟨by omega⟩
                  have HVE : Aside0 ((q : Int) + 1 + (d : Int) = ((q + 1 + d : Nat) : Int)) := ⟨by omega⟩
                  clear HQ2 HIL
                  by_cases hm0 : d = 0
                  · subst hm0
                    have HZz := Aside0.mk (HZ0.out rfl)
                    simp only [Int.natCast_zero, Int.add_zero, Nat.add_zero] at hsub hge0 hadr ⊢
                    have HYL3 : Aside0 ((Y ++ Z).length ≤ 22 + 2 * (q + 1)) := ⟨by rw [List.length_append]; have := HZL.out.2 rfl; omega⟩
                    clear hY
                    by_cases he : q + 1 + 0 < j3
                    · obtain ⟨f', hf', hcd⟩ : ∃ f', (f' == f) = false ∧ wl.cell? ⟨gf, q + 1 + 0, none⟩ = some (.int .i64 f') := ⟨_, beq_eq_false_iff_ne.2 (HOL.out (by rw [HFLN.out]; exact he)), HRC.out wl HPD.out (q + 1 + 0) (by rw [HFLN.out]; exact he)⟩
                      have hlt2 : (q : Int) + 1 < (j3 : Int) := by omega
                      go_wp2
                      go_quiet (fail)
                      go_wp2_with (go_at_call 52; refine ((HPD.out.drewN _).put8 f (by have := HYL2.out; omega) (by omega) (by omega)).mono ?_; rintro e wa ⟨rfl, hh⟩; rw [HZz.out] at hh; have HA1 := Aside0.mk hh; clear hh)
                      exact ⟨⟨q + 1, _, by simp, by omega, HA1, HQ4, HYL3⟩, by simp [RowKit.intOf]; omega⟩
                    · have hge2 : (j3 : Int) ≤ (q : Int) + 1 := by omega
                      have hdc : decide ((q : Int) + 1 < (j3 : Int)) = false := decide_eq_false (by omega)
                      go_wp2
                      go_quiet (fail)
                      go_wp2_with (go_at_call 52; refine ((HPD.out.drewN _).put8 f (by have := HYL2.out; omega) (by omega) (by omega)).mono ?_; rintro e wa ⟨rfl, hh⟩; rw [HZz.out] at hh; have HA1 := Aside0.mk hh; clear hh)
                      exact ⟨⟨q + 1, _, by simp, by omega, HA1, HQ4, HYL3⟩, by simp [RowKit.intOf]; omega⟩
                  · have hmp : (0 : Int) < (d : Int) := by omega
                    have HYL3 : Aside0 ((Y ++ Z).length ≤ 22 + 2 * (q + 1 + d)) := ⟨by rw [List.length_append]; have := HZL.out.1; omega⟩
                    clear hY
                    by_cases he : q + 1 + d < j3
                    · obtain ⟨f', hf', hcd⟩ : ∃ f', (f' == f) = false ∧ wl.cell? ⟨gf, q + 1 + d, none⟩ = some (.int .i64 f') := ⟨_, beq_eq_false_iff_ne.2 (HOL.out (by rw [HFLN.out]; exact he)), HRC.out wl HPD.out (q + 1 + d) (by rw [HFLN.out]; exact he)⟩
                      have hlt2 : (q : Int) + 1 + (d : Int) < (j3 : Int) := by omega
                      go_wp2
                      go_quiet (fail)
                      go_wp2_with (first
                        | (go_at_call 52; rw [HB8.out]; refine ((HPD.out.drewN _).put8 (f + 8) (by have := HYL2.out; omega) (by omega) (by omega)).mono ?_; rintro e wa ⟨rfl, hh⟩; have HA1 := Aside0.mk hh; clear hh HPD hcq)
                        | (go_at_call 52; rw [HSB.out]; refine (HA1.out.put8 (d : Int) (by have := HYL2.out; simp only [List.length_append, be_len1]; omega) (by omega) (by omega)).mono ?_; rintro e wb ⟨rfl, hh⟩; rw [List.append_assoc, HZ1.out hm0] at hh; have HA2 := Aside0.mk hh; clear hh HA1))
                      exact ⟨⟨q + 1 + d, _, by rw [HVE.out], by omega, HA2, HQ4, HYL3⟩, by simp [RowKit.intOf]; omega⟩
                    · have hge2 : (j3 : Int) ≤ (q : Int) + 1 + (d : Int) := by omega
                      have hdc : decide ((q : Int) + 1 + (d : Int) < (j3 : Int)) = false := decide_eq_false (by omega)
                      go_wp2
                      go_quiet (fail)
                      go_wp2_with (first
                        | (go_at_call 52; rw [HB8.out]; refine ((HPD.out.drewN _).put8 (f + 8) (by have := HYL2.out; omega) (by omega) (by omega)).mono ?_; rintro e wa ⟨rfl, hh⟩; have HA1 := Aside0.mk hh; clear hh HPD hcq)
                        | (go_at_call 52; rw [HSB.out]; refine (HA1.out.put8 (d : Int) (by have := HYL2.out; simp only [List.length_append, be_len1]; omega) (by omega) (by omega)).mono ?_; rintro e wb ⟨rfl, hh⟩; rw [List.append_assoc, HZ1.out hm0] at hh; have HA2 := Aside0.mk hh; clear hh HA1))
                      exact ⟨⟨q + 1 + d, _, by rw [HVE.out], by omega, HA2, HQ4, HYL3⟩, by simp [RowKit.intOf]; omega⟩
            · obtain rfl : q = j3 := by omega
              have hFN : Y = E2 := by
                have h := HQ.out
                rw [List.drop_of_length_le (by rw [HFLN.out]; exact Nat.le_refl _), rle_nil, List.append_nil] at h
                exact h
              rw [hFN] at HP
              clear HQ hFN HYL
              have HD1 := Aside0.mk (fun (W : World) (X : List Int) (h : Hp w W w.heap.size w2.heap.size X RW BL) (hX : X.length ≤ 10000) => (show Calls Try.prog 53 #[.pointer (some ⟨w2.heap.size, 0, none⟩), .slice Af q cf, .slice Ax q cx, .int .i64 2, .int .i64 16] W fun e w' => e = .returned (.tuple #[]) ∧ Hp w w' w.heap.size w2.heap.size (X ++ dxs.flatMap dif) RW BL from by
                have h4 := diff_x h Af Ax cf cx fls dxs (by rw [HFLN.out]; exact HM1.out.1) (HM1.out.2.1) (by rw [HFLN.out, HXLN.out]) (by rw [HXLN.out]; omega) HBX1.out HDX.out hX
                rw [HFLN.out, HXLN.out] at h4
                exact h4))
              have HD2 := Aside0.mk (fun (W : World) (X : List Int) (h : Hp w W w.heap.size w2.heap.size X RW BL) (hX : X.length ≤ 10000) => (show Calls Try.prog 53 #[.pointer (some ⟨w2.heap.size, 0, none⟩), .slice Af q cf, .slice Ay q cy, .int .i64 4, .int .i64 32] W fun e w' => e = .returned (.tuple #[]) ∧ Hp w w' w.heap.size w2.heap.size (X ++ dys.flatMap dif) RW BL from by
                have h4 := diff_y h Af Ay cf cy fls dys (by rw [HFLN.out]; exact HM1.out.1) (HM1.out.2.2) (by rw [HFLN.out, HYLN.out]) (by rw [HYLN.out]; omega) HBX2.out HDY.out hX
                rw [HFLN.out, HYLN.out] at h4
                exact h4))
              have HL1 : Aside0 ((E2 ++ dxs.flatMap dif).length ≤ 1000) := ⟨by have := difs_len dxs; have := HXLN.out; have := HE2L.out; rw [List.length_append]; omega⟩
              have HL2 : Aside0 ((E2 ++ dxs.flatMap dif ++ dys.flatMap dif).length ≤ 2000) := ⟨by have := difs_len dys; have := HYLN.out; have := HL1.out; rw [List.length_append]; omega⟩
              go_wp2_with (first
                | (go_at_call 53; refine (HD1.out _ _ HP.out (by have := HE2L.out; omega)).mono ?_; rintro e wa ⟨rfl, hh⟩; have HA1 := Aside0.mk hh; clear hh HP HD1)
                | (go_at_call 53; refine (HD2.out _ _ HA1.out (by have := HL1.out; omega)).mono ?_; rintro e wb ⟨rfl, hh⟩; have HA2 := Aside0.mk hh; clear hh HA1 HD2)
                | (go_at_call 48; refine (HA2.out.all (by have := HL2.out; omega)).mono ?_; rintro e w7 ⟨v, rfl, hR, hB⟩; have HR7 := Aside0.mk (Kd.R_lower hR HA2.out.base_le); have HB7 := Aside0.mk (below_then HA2.out.bel HA2.out.base_le hB); clear hR hB))
              rw [HRE.out]
              go_ret2
              exact ⟨_, rfl, HR7.out, HB7.out⟩
theorem outline_Write.calls (A0 : Option Addr) (c0 : Nat) (l0 : List (List Pt)) (A1 : Option Addr) (c1 : Nat) (l1 : List Pr) (r1 : List Int) (r2 : Int) (w : World) (hr0 : Kd.C (Kd.slice 40 k40) w A0 l0.length l0) (hc0 : l0.length ≤ c0) (hr1 : Kd.C k82 w A1 l1.length l1) (hc1 : l1.length ≤ c1) (h : outline_Write.f l0 l1 = some (r1, r2)) :
    Calls Try.prog 16 #[.agg #[.slice A0 l0.length c0, .slice A1 l1.length c1]] w fun e w' => ∃ v0_ : Value, e = .returned (.tuple #[v0_, .int .i64 r2]) ∧ Kd.R (Kd.int .u8) 5 w' w.heap.size (fun _ => True) v0_ r1 ∧ Below w.heap.size w w' := by
  unfold outline_Write.f at h
  split at h
  · rename_i hcl
    have hcl2 : ∀ c ∈ l0, c.length ≤ 1000000000000 := fun c hc => of_decide_eq_true (List.all_eq_true.1 hcl c hc)
    have hw := Option.some.inj h
    clear h hcl
    unfold wrO at hw
    cases hf : fmO l0 l1 with
    | false =>
      rw [hf] at hw
      obtain ⟨rfl, rfl⟩ := Prod.mk.inj hw
      exact Write_no A0 A1 c0 c1 l0 l1 w hr0 hc0 hr1 hc1 hcl2 hf
    | true =>
      rw [hf, if_pos rfl] at hw
      by_cases hp : 0 < l1.length
      · rw [if_pos hp] at hw
        obtain ⟨rfl, rfl⟩ := Prod.mk.inj hw
        exact Write_parts A0 A1 c0 c1 l0 l1 w hr0 hc0 hr1 hc1 hcl2 hf hp
      · rw [if_neg hp] at hw
        obtain rfl : l1 = [] := List.eq_nil_of_length_eq_zero (by omega)
        exact Write_cons A0 A1 c0 c1 l0 w hr0 hc0 hr1 hc1 hcl2 hf (r1, r2) hw.symm
  · cases h
end Go.Proofs.Ytmppdgjnibamlab.Pag
