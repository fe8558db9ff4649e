/- OctetsPages: whatever is put on a page, both pages have the same bytes. No condition. -/
import Derived.Test.YtmppdgjnibamlaaRgH
import Derived.Test.YtmppdgjnibamlaaO4A
namespace Go.Proofs.Ytmppdgjnibamlaa.Duo
open Go.RowKit Go.Proofs.YtmppdgjnibamlaaW.PrintWords Go.Proofs.Ytmppdgjnibamlaa.PRf Go.Proofs.Ytmppdgjnibamlaa.PRk
open Go.Proofs.Ytmppdgjnibamlaa.Pag (over allB allE good C_reads reads_C)
set_option linter.unusedVariables false
set_option linter.unusedSimpArgs false

theorem wrapOk (x : Int) (h0 : -9223372036854775808 ≤ x) (h1 : x ≤ 9223372036854775807) : wrap64 x = x := by unfold wrap64; omega
theorem rd_getOp {l : List S68} {i : Nat} (h : i < l.length) : rd_T68 l (i : Int) = l[i] := by simp [rd_T68, h]
theorem few_ev (l : List S68) (hl : l.length ≤ 1000000000000000) : ∀ d i : Nat, i + d = l.length → ∀ acc : Int, 0 ≤ acc → acc ≤ 100000 →
    ∃ b, Ev (fun k => foundrylaw04_few.l0 k l acc (i : Int)) b ∧ (b = true → acc ≤ 10000 ∧ l.length ≤ 200 ∧ ∀ o ∈ l.drop i, o.f3.size ≤ 10000) := by
  intro d
  induction d with
  | zero =>
    intro i hi acc h0 h1
    by_cases ha : acc ≤ 10000
    · refine ⟨_, Ev.step (fun k => by rw [foundrylaw04_few.l0, if_neg (by omega), if_pos ha]) (Ev.now _), fun h => ?_⟩
      have := of_decide_eq_true h
      refine ⟨ha, by omega, ?_⟩
      rw [List.drop_of_length_le (by omega)]; simp
    · exact ⟨false, Ev.step (fun k => by rw [foundrylaw04_few.l0, if_neg (by omega), if_neg ha]) (Ev.now _), fun h => by cases h⟩
  | succ d ih =>
    intro i hi acc h0 h1
    have hlt : i < l.length := by omega
    by_cases ha : acc ≤ 10000
    · have hmn : mn (l[i].f3.size : Int) 10000 ≤ 10000 ∧ 0 ≤ mn (l[i].f3.size : Int) 10000 ∧ (mn (l[i].f3.size : Int) 10000 = (l[i].f3.size : Int) ∨ mn (l[i].f3.size : Int) 10000 = 10000) := by unfold mn; omega
      obtain ⟨mm, hmq⟩ : ∃ mm, mn (l[i].f3.size : Int) 10000 = mm := ⟨_, rfl⟩
      rw [hmq] at hmn
      have w2 : wrap64 (acc + (1 + mm)) = acc + (1 + mm) := wrapOk _ (by omega) (by omega)
      have w3 : wrap64 ((i : Int) + 1) = ((i + 1 : Nat) : Int) := by rw [wrapOk _ (by omega) (by omega)]; omega
      obtain ⟨b, hev, hb⟩ := ih (i + 1) (by omega) (acc + (1 + mm)) (by omega) (by omega)
      refine ⟨b, Ev.step (fun k => by rw [foundrylaw04_few.l0, if_pos (by omega), if_pos ha, if_pos (by omega), rd_getOp hlt, hmq, w2, w3]) hev, fun h => ?_⟩
      obtain ⟨g1, g2, g3⟩ := hb h
      refine ⟨ha, g2, fun o ho => ?_⟩
      rw [List.drop_eq_getElem_cons hlt] at ho
      rcases List.mem_cons.1 ho with rfl | ho
      · omega
      · exact g3 o ho
    · exact ⟨false, Ev.step (fun k => by rw [foundrylaw04_few.l0, if_pos (by omega), if_neg ha]) (Ev.now _), fun h => by cases h⟩
theorem same_ev (l : List Int) (hl : l.length ≤ 1000000000) : ∃ k, foundryref04_Same.f k l l = some true := by
  refine Ev.rounds ?_
  unfold foundryref04_Same.f
  simp only [if_true]
  have h : ∀ d i : Nat, i + d = l.length → Ev (fun k => foundryref04_Same.l0 k l l (i : Int)) true := by
    intro d
    induction d with
    | zero => intro i hi; exact Ev.step (fun k => by rw [foundryref04_Same.l0, if_neg (by omega)]) (Ev.now _)
    | succ d ih =>
      intro i hi
      exact Ev.step (fun k => by rw [foundryref04_Same.l0, if_pos (by omega), if_pos (by omega), if_pos (by omega), if_pos rfl, wrapOk _ (by omega) (by omega), show ((i : Int) + 1) = ((i + 1 : Nat) : Int) by omega]) (ih (i + 1) (by omega))
  exact h l.length 0 (by omega)
theorem RPg_new (W : World) (base : Nat) (h : base ≤ W.heap.size) :
    Rag.Pg (W.alloc (.cells #[.slice none 0 0, .slice none 0 0, .bool false] 65)) base (fun k => W.heap.size ≤ k) W.heap.size [] [] false :=
  ⟨.slice none 0 0, .slice none 0 0, by simpa using heap_alloc_new W _, h, Nat.le_refl _, own_nil _ _ _ _, own_nil _ _ _ _, fun k hk => by simp [Value.ownBlock] at hk, fun k hk => by simp [Value.ownBlock] at hk⟩
theorem Like_new (W : World) (base : Nat) (h : base ≤ W.heap.size) :
    Like ((W.alloc (.cells #[.slice none 0 0, .slice none 0 0, .bool false] 28)).alloc (.cells #[.slice none 0 0, .slice none 0 0, .bool false] 65)) base W.heap.size (W.heap.size + 1) 0 := by
  have h1 := (Pag.Pg.new W base h).bound
  have h2 := RPg_new (W.alloc (.cells #[.slice none 0 0, .slice none 0 0, .bool false] 28)) base (by simp; omega)
  refine ⟨[], [], false, ⟨_, _, h1.alloc _, by simpa using h2, fun k a b => ?_, fun k hk => hk.elim⟩, ⟨List.Pairwise.nil, by simp⟩, by simp⟩
  have := a.2.2
  simp at this b; omega
theorem Like.below {w w1 : World} {base g1 g2 q : Nat} (h : Like w base g1 g2 q) (hb : Below w.heap.size w w1) : Like w1 base g1 g2 q := by
  obtain ⟨B, Wt, fl, hd, hI, hW⟩ := h
  exact ⟨B, Wt, fl, hd.below hb, hI, hW⟩
theorem allB_len (fl : Bool) (B Wt : List Int) : (allB fl B Wt).length ≤ 1048576 := by
  unfold allB
  split
  · simp
  · split
    · simp
    · split
      · simp
      · omega

set_option maxHeartbeats 4000000 in
set_option maxRecDepth 100000 in
theorem pages_in (A0 : Option Addr) (c0 : Nat) (l0 : List S68) (s : ByteArray) (w : World) (hr0 : Kd.C k68 w A0 l0.length l0) (hc0 : l0.length ≤ c0) (k : Nat) (hk : foundrylaw04_few.f k l0 = some true) (hlen : l0.length ≤ 200) (hs : ∀ o ∈ l0, o.f3.size ≤ 10000) (hz : s.size ≤ 9223372036854775807) :
    Calls Try.prog 9 #[.slice A0 l0.length c0, .string s] w fun e w' => e = .returned (.bool true) ∧ Below w.heap.size w w' := by
  have HA := Aside0.mk (fun W => Pag.awake4_calls W)
  have HF := Aside0.mk (fun (W : World) (hb : Below w.heap.size w W) => foundrylaw04_few.calls k A0 c0 l0 true W (Kd.C_below hr0 hb) hc0 hk)
  have HR0 := Aside0.mk hr0
  have HS := Aside0.mk hs
  have HZ := Aside0.mk hz
  obtain ⟨kg, hkg⟩ := Rag.good_ev s hz
  have HG := Aside0.mk (fun W => foundryref04_Good.calls kg s (good s) W hkg)
  clear hr0 hc0 hk hs hkg hz
  go_enter Try.func9, Try.ntmps9
  go_wp2_with (first
    | (go_at_call 15; refine (HA.out _).mono ?_; rintro e w1 ⟨rfl, hb⟩; have HB1 := Aside0.mk hb; clear hb)
    | (go_at_call 44; refine (HF.out _ HB1.out).mono ?_; rintro e w2 ⟨rfl, hb⟩; have HB2 := Aside0.mk (below_then HB1.out HB1.out.size hb); clear hb HB1))
  have HLN := Aside0.mk (Like_new w2 w.heap.size HB2.out.size)
  have HBN := Aside0.mk (below_alloc (below_alloc HB2.out (.cells #[.slice none 0 0, .slice none 0 0, .bool false] 28)) (.cells #[.slice none 0 0, .slice none 0 0, .bool false] 65))
  go_loopw [7] (fun i wr => ∃ j : Nat, i = .int .i64 (j : Int) ∧ j ≤ l0.length ∧ Aside0 (Like wr w.heap.size w2.heap.size (w2.heap.size + 1) j) ∧ Aside0 (Below w.heap.size w wr)) (fun i _ => l0.length - (RowKit.intOf i).toNat)
  case atStart => exact ⟨0, rfl, by omega, HLN, HBN⟩
  case round =>
    obtain ⟨j, rfl, hj, HL, HB⟩ := hrel
    clear HLN HBN
    by_cases hlt : j < l0.length
    · obtain ⟨ad, had, hx0, hx1, hx2, hx3⟩ := at_T68 (Kd.C_below HR0.out HB.out) (j : Int) (by omega) (by omega)
      subst had
      simp only [Int.toNat_natCast, rd_getOp hlt] at hx0 hx1 hx2 hx3
      have HSO := Aside0.mk (HS.out _ (List.getElem_mem hlt))
      obtain ⟨o, ho⟩ : ∃ o, l0[j] = o := ⟨_, rfl⟩
      rw [ho] at hx0 hx1 hx2 hx3 HSO
      clear ho
      obtain ⟨o0, o1, o2, o3⟩ := o
      have hjl : (j : Int) < (l0.length : Int) := by omega
      have hj0 : (0 : Int) ≤ (j : Int) := by omega
      have hjb : (j : Int) ≤ 200 := by omega
      obtain ⟨ga, hga⟩ : ∃ ga, w2.heap.size = ga := ⟨_, rfl⟩
      rw [hga] at HL
      simp only [hga]
      go_wp2
      go_region_law (first
        | (go_simp; go_at_call 45; refine (act_any (base := w.heap.size) (q := j) (by first | exact HL.out | exact HL.out.below (below_drew1 (Below.refl _ _)) | exact HL.out.below (pw_below_drewN (Below.refl _ _) _)) (by omega) _ _ _ _ (Nat.le_trans HSO.out (by omega))).mono ?_; rintro e w3 ⟨rfl, hl, hb⟩; have HL3 := Aside0.mk hl; obtain ⟨B, Wt, fl, hd, hI, hW⟩ := hl; obtain ⟨ok1, ok2, hp1, hp2, hd1, -⟩ := hd; obtain ⟨AB, cB, CB⟩ := Rag.byte_cell hp2; have HHERE := Aside0.mk (Pag.here_calls hp1); have HA1 := Aside0.mk (Pag.All_calls hp1); have HP2 := Aside0.mk hp2; have HB3 := Aside0.mk hb; clear hb hI hW hp1 hp2 hd1)
        | (go_simp; go_at_call 16; refine HHERE.out.mono ?_; rintro e w' ⟨rfl, rfl⟩))
      all_goals
        have HAL := Aside0.mk (allB_len fl B Wt)
        have HA2 := Aside0.mk (fun (W : World) (hb : Below w3.heap.size w3 W) => Rag.All_calls (HP2.out.below hb))
        obtain ⟨ae, hae⟩ : ∃ ae, allE fl B Wt = ae := ⟨_, rfl⟩
        obtain ⟨ab, hab⟩ : ∃ ab, allB fl B Wt = ab := ⟨_, rfl⟩
        rw [hae, hab] at HA1
        simp only [hae, hab] at HA2 HAL
        obtain ⟨ks, hks⟩ := same_ev ab (by have := HAL.out; omega)
        have HSM := Aside0.mk (fun (W : World) (A1 A2 : Option Addr) (c1 c2 : Nat) (h1 : Kd.C (Kd.int .u8) W A1 ab.length ab) (h2 : ab.length ≤ c1) (h3 : Kd.C (Kd.int .u8) W A2 ab.length ab) (h4 : ab.length ≤ c2) => foundryref04_Same.calls ks A1 c1 ab A2 c2 ab true W h1 h2 h3 h4 hks)
        clear hae hab hks
        go_wp2_with (first
          | (go_at_call 22; refine HA1.out.mono ?_; rintro e w4 ⟨v4, rfl, hR, hB⟩; obtain ⟨X4, y4, rfl, hle4, hC4⟩ := Kd.R_reads hR; have HB4 := Aside0.mk hB; have HC4 := Aside0.mk (And.intro hle4 hC4); clear hR hB hle4 hC4 HA1)
          | (go_at_call 46; refine (HA2.out _ HB4.out).mono ?_; rintro e w5 ⟨v5, rfl, hR, hB⟩; obtain ⟨X5, y5, rfl, hle5, hC5⟩ := Kd.R_reads hR; have HB5 := Aside0.mk hB; have HC5 := Aside0.mk (And.intro hle5 hC5); clear hR hB hle5 hC5 HA2)
          | (go_at_call 38; refine (HSM.out _ _ _ _ _ (Kd.C_below HC4.out.2 HB5.out) HC4.out.1 HC5.out.2 HC5.out.1).mono ?_; rintro e w6 ⟨rfl, ⟨nd, rfl⟩⟩))
        go_roundw
        case rel => exact ⟨j + 1, by go_num, by omega, ⟨((HL3.out.below HB4.out).below HB5.out).below (pw_below_drewN (Below.refl _ _) _)⟩, ⟨pw_below_drewN (below_then (below_then (((by first | exact HB.out | exact below_drew1 HB.out | exact pw_below_drewN HB.out _) : Below w.heap.size w _).trans HB3.out) (((by first | exact HB.out | exact below_drew1 HB.out | exact pw_below_drewN HB.out _) : Below w.heap.size w _).trans HB3.out).size HB4.out) (below_then (((by first | exact HB.out | exact below_drew1 HB.out | exact pw_below_drewN HB.out _) : Below w.heap.size w _).trans HB3.out) (((by first | exact HB.out | exact below_drew1 HB.out | exact pw_below_drewN HB.out _) : Below w.heap.size w _).trans HB3.out).size HB4.out).size HB5.out) _⟩⟩
        case measure => simp [RowKit.intOf]; omega
    · obtain rfl : j = l0.length := by omega
      have HGD := Aside0.mk (fun W => Pag.Good_calls s W HZ.out)
      obtain ⟨gd, hgd⟩ : ∃ gd, good s = gd := ⟨_, rfl⟩
      simp only [hgd] at HGD HG
      clear hgd
      cases gd <;>
      · go_wp2_with (first
          | (go_at_call 20; refine (HGD.out _).mono ?_; rintro e w' ⟨rfl, rfl⟩)
          | (go_at_call 47; refine (HG.out _).mono ?_; rintro e w6 ⟨rfl, ⟨nd, rfl⟩⟩))
        go_ret
        exact ⟨by first | rfl | simp, pw_below_drewN HB.out _⟩

set_option maxHeartbeats 1000000 in
theorem pages_out (A0 : Option Addr) (c0 : Nat) (l0 : List S68) (s : ByteArray) (w : World) (hr0 : Kd.C k68 w A0 l0.length l0) (hc0 : l0.length ≤ c0) (k : Nat) (hk : foundrylaw04_few.f k l0 = some false) :
    Calls Try.prog 9 #[.slice A0 l0.length c0, .string s] w fun e w' => e = .returned (.bool true) ∧ Below w.heap.size w w' := by
  have HA := Aside0.mk (fun W => Pag.awake4_calls W)
  have HF := Aside0.mk (fun (W : World) (hb : Below w.heap.size w W) => foundrylaw04_few.calls k A0 c0 l0 false W (Kd.C_below hr0 hb) hc0 hk)
  have HB := Aside0.mk (Below.refl w.heap.size w)
  clear hr0 hc0 hk
  go_enter Try.func9, Try.ntmps9
  go_wp2_with (first
    | (go_at_call 15; refine (HA.out _).mono ?_; rintro e w1 ⟨rfl, hb⟩; have HB1 := Aside0.mk (below_then HB.out HB.out.size hb); clear hb HB; have HB := HB1; clear HB1)
    | (go_at_call 44; refine (HF.out _ HB.out).mono ?_; rintro e w2 ⟨rfl, hb⟩; have HB1 := Aside0.mk (below_then HB.out HB.out.size hb); clear hb HB; have HB := HB1; clear HB1))
  go_ret
  exact ⟨rfl, HB.out⟩
theorem pages_all (A0 : Option Addr) (c0 : Nat) (l0 : List S68) (s : ByteArray) (w : World) (hr0 : Kd.C k68 w A0 l0.length l0) (hc0 : l0.length ≤ c0) (hl : l0.length ≤ 1000000000000000) (hz : s.size ≤ 9223372036854775807) :
    Calls Try.prog 9 #[.slice A0 l0.length c0, .string s] w fun e w' => e = .returned (.bool true) ∧ Below w.heap.size w w' := by
  obtain ⟨b, hev, hb⟩ := few_ev l0 hl l0.length 0 (by omega) 0 (by omega) (by omega)
  obtain ⟨k, hk⟩ := Ev.rounds (g := fun k => foundrylaw04_few.f k l0) hev
  cases b with
  | true =>
    obtain ⟨h1, h2, h3⟩ := hb rfl
    rw [List.drop_zero] at h3
    exact pages_in A0 c0 l0 s w hr0 hc0 k hk h2 h3 hz
  | false => exact pages_out A0 c0 l0 s w hr0 hc0 k hk
/-- In the print's form: there is nothing that it answers but true. -/
def foundrylaw04_OctetsPages.f (l0 : List S68) (s : ByteArray) : Option Bool := if l0.length ≤ 1000000000000000 ∧ s.size ≤ 9223372036854775807 then some true else none
theorem foundrylaw04_OctetsPages.calls (A0 : Option Addr) (c0 : Nat) (l0 : List S68) (s : ByteArray) (r : Bool) (w : World) (hr0 : Kd.C k68 w A0 l0.length l0) (hc0 : l0.length ≤ c0) (h : foundrylaw04_OctetsPages.f l0 s = some r) :
    Calls Try.prog 9 #[.slice A0 l0.length c0, .string s] w fun e w' => e = .returned (.bool r) ∧ Below w.heap.size w w' := by
  unfold foundrylaw04_OctetsPages.f at h
  split at h
  · rename_i hh
    obtain rfl := Option.some.inj h
    exact pages_all A0 c0 l0 s w hr0 hc0 hh.1 hh.2
  · cases h
theorem OctetsPages_plain (l0 : List S68) (s : ByteArray) {P0 : Prop} (h0 : l0.length * 40 ≤ 140737488351232 ∧ P0) (h1 : s.size ≤ 140737488351232) : ∃ k : Nat, foundrylaw04_OctetsPages.f l0 s = some true := ⟨0, by unfold foundrylaw04_OctetsPages.f; rw [if_pos ⟨by omega, by omega⟩]⟩
end Go.Proofs.Ytmppdgjnibamlaa.Duo
