/- The reference's page: PutTag, PutBytes, Later, Pad, All. -/
import Derived.Test.YtmppdgjnibamlaaRgC
namespace Go.Proofs.Ytmppdgjnibamlaa.Rag
open Go.RowKit Go.Proofs.YtmppdgjnibamlaaW.PrintWords Go.Proofs.Ytmppdgjnibamlaa.PRf
open Go.Proofs.Ytmppdgjnibamlaa.Pag (over allB allE putB putF putsB tagB tagF laterB laterW padB padF padN padN_step padN_zero padN_lt good signs be C_reads reads_C reads_block own_R)
set_option linter.unusedVariables false
set_option linter.unusedSimpArgs false

theorem signs_ev (s : ByteArray) (hs : s.size = 4) : ∀ d i : Nat, i + d = 4 → Ev (fun k => foundryref04_Good.l0 k s (i : Int)) (signs s d i) := by
  intro d
  induction d with
  | zero =>
    intro i hi
    exact Ev.step (fun k => by rw [foundryref04_Good.l0, if_neg (by omega)]) (Ev.now true)
  | succ d ih =>
    intro i hi
    have hr := ih (i + 1) (by omega)
    have hw : wrap64 ((i : Int) + 1) = ((i + 1 : Nat) : Int) := by rw [wrapOk _ (by omega) (by omega)]; omega
    by_cases h1 : bt s (i : Int) < 32
    · refine Ev.step (fun k => by rw [foundryref04_Good.l0, if_pos (by omega), if_pos (by omega), if_pos (by omega), if_pos h1]) ?_
      rw [show signs s (d + 1) i = false by simp only [signs]; simp [h1]]
      exact Ev.now _
    · by_cases h2 : bt s (i : Int) > 126
      · refine Ev.step (fun k => by rw [foundryref04_Good.l0, if_pos (by omega), if_pos (by omega), if_pos (by omega), if_neg h1, if_pos h2]) ?_
        rw [show signs s (d + 1) i = false by simp only [signs]; simp [h2]]
        exact Ev.now _
      · refine Ev.step (fun k => by rw [foundryref04_Good.l0, if_pos (by omega), if_pos (by omega), if_pos (by omega), if_neg h1, if_neg h2, hw]) ?_
        rw [show signs s (d + 1) i = signs s d (i + 1) by simp only [signs]; simp [h1, h2]]
        exact hr
theorem good_ev (s : ByteArray) (hs : s.size ≤ 9223372036854775807) : ∃ k, foundryref04_Good.f k s = some (good s) := by
  refine Ev.rounds ?_
  unfold foundryref04_Good.f good
  by_cases h : s.size = 4
  · simp only [h, if_true, show ((4 : Nat) : Int) = 4 from rfl, decide_true, Bool.and_true]
    exact signs_ev s h 4 0 rfl
  · simp only [show ¬ ((s.size : Int) = 4) by omega, if_false, decide_eq_false h, Bool.and_false]
    exact Ev.now _
set_option maxHeartbeats 1000000 in
set_option maxRecDepth 100000 in
theorem PutBytes_calls {w : World} {base g : Nat} {ok : Nat → Prop} {B Wt : List Int} {fl : Bool} (h : Pg w base ok g B Wt fl) (A0 : Option Addr) (c0 : Nat) (l0 : List Int) (hr0 : Kd.C (Kd.int .u8) w A0 l0.length l0) (hl : l0.length ≤ 100000000000) :
    Calls Try.prog 90 #[.pointer (some ⟨g, 0, none⟩), .slice A0 l0.length c0] w fun e w' => e = .returned (.tuple #[]) ∧ Pst base ok w w' g (putsB fl B l0) Wt fl := by
  have HC := Aside0.mk (done_calls h)
  have HP := Aside0.mk (Pst.refl h)
  have HR := Aside0.mk (C_reads hr0)
  have HL := Aside0.mk hl
  cases ho : over fl B with
  | true =>
    have e1 := Aside0.mk (show putsB fl B l0 = B by simp [putsB, ho])
    rw [ho] at HC
    clear h hr0 hl ho
    go_enter Try.func90, Try.ntmps90
    go_wp2_with (go_at_call 108; refine HC.out.mono ?_; rintro e w' ⟨rfl, rfl⟩)
    first | go_end0 | ((try simp only [Exit.inBlock, Exit.then]); refine bodyPost_ret (results_none rfl _ _ _) rfl ?_)
    exact ⟨rfl, by rw [e1.out]; exact HP.out⟩
  | false =>
    have HL2 : Aside0 (B.length ≤ 1048576) := Aside0.mk (by simp [over] at ho; omega)
    have e1 := Aside0.mk (show putsB fl B l0 = B ++ l0 by simp [putsB, ho])
    rw [ho] at HC
    obtain ⟨v1, v2, hb, h1, h2, h3, h4, h5, h6⟩ := h
    obtain ⟨A1, c1, rfl⟩ := own_slice h3
    have C0 : w.cell? ⟨g, 0, none⟩ = some (.slice A1 B.length c1) := (blk_cell hb 0).trans rfl
    clear hb h1 h2 h3 h4 h5 h6 hr0 hl ho
    go_enter Try.func90, Try.ntmps90
    go_wp2_with (first
      | (go_at_call 108; refine HC.out.mono ?_; rintro e w' ⟨rfl, rfl⟩)
      | (at_builtin; refine pg_row rfl (.tmp 11) (.tmp 12) rfl HP.out C0 rfl A0 l0.length c0 l0 rfl (Below.refl _ _) HR.out (by have := HL.out; have := HL2.out; omega) ?_; intro A' c' w2 cc hP2 hc2 hf2; have HP2 := Aside0.mk hP2; clear hP2 C0))
    first | go_end0 | ((try simp only [Exit.inBlock, Exit.then]); refine bodyPost_ret (results_none rfl _ _ _) rfl ?_)
    exact ⟨rfl, by rw [e1.out]; exact HP2.out⟩

set_option maxHeartbeats 1000000 in
set_option maxRecDepth 100000 in
theorem All_calls {w : World} {base g : Nat} {ok : Nat → Prop} {B Wt : List Int} {fl : Bool} (h : Pg w base ok g B Wt fl) :
    Calls Try.prog 46 #[.pointer (some ⟨g, 0, none⟩)] w fun e w' => ∃ v, e = .returned (.tuple #[v, .int .i64 (allE fl B Wt)]) ∧ Kd.R (Kd.int .u8) 5 w' w.heap.size (fun _ => True) v (allB fl B Wt) ∧ Below w.heap.size w w' := by
  have HN := Aside0.mk (Kd.R_nil (Kd.int .u8) 5 w w.heap.size (fun _ => True))
  obtain ⟨v1, v2, hb, h1, h2, h3, h4, h5, h6⟩ := h
  obtain ⟨A1, c1, rfl, hle, hC⟩ := Kd.R_reads (own_R h3 h5)
  obtain ⟨A2, c2, rfl⟩ := own_slice h4
  have C0 : w.cell? ⟨g, 0, none⟩ = some (.slice A1 B.length c1) := (blk_cell hb 0).trans rfl
  have C1 : w.cell? ⟨g, 1, none⟩ = some (.slice A2 Wt.length c2) := (blk_cell hb 1).trans rfl
  have C2 : w.cell? ⟨g, 2, none⟩ = some (.bool fl) := (blk_cell hb 2).trans rfl
  have HR := Aside0.mk (C_reads hC)
  clear hb h1 h2 h3 h4 h5 h6 hle hC
  cases fl with
  | true =>
    go_enter Try.func46, Try.ntmps46
    go_wp2
    go_ret2
    exact ⟨_, rfl, HN.out, Below.refl _ _⟩
  | false =>
    by_cases hW : 0 < Wt.length
    · have e1 := Aside0.mk (show allE false B Wt = 1 by simp [allE, hW])
      have e2 := Aside0.mk (show allB false B Wt = [] by simp [allB, hW])
      go_enter Try.func46, Try.ntmps46
      go_wp2
      go_ret2
      rw [e1.out, e2.out]
      exact ⟨_, rfl, HN.out, Below.refl _ _⟩
    · by_cases hL : 1048576 < B.length
      · have e1 := Aside0.mk (show allE false B Wt = 3 by simp [allE, hW, hL])
        have e2 := Aside0.mk (show allB false B Wt = [] by simp [allB, hW, hL])
        go_enter Try.func46, Try.ntmps46
        go_wp2
        go_ret2
        rw [e1.out, e2.out]
        exact ⟨_, rfl, HN.out, Below.refl _ _⟩
      · have e1 := Aside0.mk (show allE false B Wt = 0 by simp [allE, hW, hL])
        have e2 := Aside0.mk (show allB false B Wt = B by simp [allB, hW, hL])
        have HL := Aside0.mk hL
        go_enter Try.func46, Try.ntmps46
        go_wp2_with (at_builtin; refine print_append_row (w0 := w) w.heap.size rfl (.tmp 21) (.tmp 25) 25 5 .u8 1 rfl Try.underlying25 Pag.infoB (by decide) _ [] B A1 B.length c1 rfl rfl (Pag.R_own1 HN.out).1 HR.out (Below.refl _ _) (by simp) (by have := HL.out; simp; omega) ?_; intro v1 w1 hown hB hg hat; have HO := Aside0.mk hown; have HB := Aside0.mk hB; clear hown hB hg hat)
        go_ret2
        rw [e1.out, e2.out]
        exact ⟨_, rfl, own_R (by simpa using HO.out) (fun _ _ => trivial), HB.out⟩

theorem drewN_set {w : World} {base g : Nat} {ok : Nat → Prop} {B Wt : List Int} {fl : Bool} {p : Addr} {v : Value} (h : Pst base ok w (w.setCell p v) g B Wt fl) (n : Nat) : Pst base ok w ((w.drewN n).setCell p v) g B Wt fl := by
  have e : (w.drewN n).setCell p v = (w.setCell p v).drewN n := by first | rfl | (unfold World.drewN World.setCell; simp)
  rw [e]
  exact ⟨h.pg.drewN n, h.kept.drewN n, pw_below_drewN h.below n⟩
theorem cell_one {w w2 : World} {base g : Nat} {ok : Nat → Prop} {B Wt : List Int} {fl : Bool} {v : Value} (h : Pst base ok w (w2.setCell ⟨g, 0, none⟩ v) g B Wt fl) :
    ∃ x, Aside0 ((w2.setCell ⟨g, 0, none⟩ v).cell? ⟨g, 1, none⟩ = some x) ∧ w2.cell? ⟨g, 1, none⟩ = some x := by
  obtain ⟨x1, x2, hb, -⟩ := h.pg
  have c : (w2.setCell ⟨g, 0, none⟩ v).cell? ⟨g, 1, none⟩ = some x2 := (blk_cell hb 1).trans rfl
  exact ⟨x2, ⟨c⟩, (World.cell?_setCell_other _ ⟨g, 0, none⟩ ⟨g, 1, none⟩ v (by simp)).symm.trans c⟩

set_option maxHeartbeats 1000000 in
set_option maxRecDepth 100000 in
theorem PutTag_calls {w : World} {base g : Nat} {ok : Nat → Prop} {B Wt : List Int} {fl : Bool} (h : Pg w base ok g B Wt fl) (s : ByteArray) (hs : s.size ≤ 9223372036854775807) (k : Nat) (hk : foundryref04_Good.f k s = some (good s)) :
    Calls Try.prog 89 #[.pointer (some ⟨g, 0, none⟩), .string s] w fun e w' => e = .returned (.tuple #[]) ∧ Pst base ok w w' g (tagB fl B s) Wt (tagF fl B s) := by
  have HC := Aside0.mk (done_calls h)
  have HP := Aside0.mk (Pst.refl h)
  have HG := Aside0.mk (foundryref04_Good.calls k s (good s) w hk)
  clear hs
  cases ho : over fl B with
  | true =>
    have e1 := Aside0.mk (show tagB fl B s = B ∧ tagF fl B s = fl by simp [tagB, tagF, ho])
    rw [ho] at HC
    clear h ho
    go_enter Try.func89, Try.ntmps89
    go_wp2_with (go_at_call 108; refine HC.out.mono ?_; rintro e w' ⟨rfl, rfl⟩)
    first | go_end0 | ((try simp only [Exit.inBlock, Exit.then]); refine bodyPost_ret (results_none rfl _ _ _) rfl ?_)
    exact ⟨rfl, by rw [e1.out.1, e1.out.2]; exact HP.out⟩
  | false =>
    obtain rfl : fl = false := by cases fl <;> simp [over] at ho ⊢
    have HL2 : Aside0 (B.length ≤ 1048576) := Aside0.mk (by simp [over] at ho; omega)
    rw [ho] at HC
    obtain ⟨C2, F2⟩ := flag_cell h
    cases hg : good s with
    | true =>
      have HS : Aside0 (s.size = 4) := Aside0.mk (by simp [good] at hg; exact hg.2)
      have e1 := Aside0.mk (show tagB false B s = B ++ bytesOf s ∧ tagF false B s = false by simp [tagB, tagF, ho, hg])
      rw [hg] at HG
      have HP1 := Aside0.mk (failed h false)
      obtain ⟨v1, v2, hb, -⟩ := h
      have C0 : w.cell? ⟨g, 0, none⟩ = some v1 := (blk_cell hb 0).trans rfl
      clear hb ho hg hk
      go_enter Try.func89, Try.ntmps89
      go_wp2_with (first
        | (go_at_call 108; refine HC.out.mono ?_; rintro e w' ⟨rfl, rfl⟩)
        | (go_at_call 47; refine HG.out.mono ?_; rintro e w' ⟨rfl, ⟨nd, rfl⟩⟩; have HQ : Aside0 (Pst base ok w ((w.drewN nd).setCell ⟨g, 2, none⟩ (.bool false)) g B Wt false) := Aside0.mk (drewN_set HP1.out nd); have C0b : ((w.drewN nd).setCell ⟨g, 2, none⟩ (.bool false)).cell? ⟨g, 0, none⟩ = some v1 := (World.cell?_setCell_other _ ⟨g, 2, none⟩ ⟨g, 0, none⟩ (.bool false) (by simp)).trans C0)
        | (at_builtin; refine pg_str rfl (.tmp 21) (.tmp 22) rfl HQ.out C0b rfl s rfl (by have := HS.out; have := HL2.out; omega) ?_; intro A' c' w2 cc hP2 hc2 hf2; have HP2 := Aside0.mk hP2; clear hP2 C0 C0b))
      first | go_end0 | ((try simp only [Exit.inBlock, Exit.then]); refine bodyPost_ret (results_none rfl _ _ _) rfl ?_)
      exact ⟨rfl, by rw [e1.out.1, e1.out.2]; exact HP2.out⟩
    | false =>
      have e1 := Aside0.mk (show tagB false B s = B ∧ tagF false B s = true by simp [tagB, tagF, ho, hg])
      rw [hg] at HG
      have HP1 := Aside0.mk (failed h true)
      clear ho hg hk h
      go_enter Try.func89, Try.ntmps89
      go_wp2_with (first
        | (go_at_call 108; refine HC.out.mono ?_; rintro e w' ⟨rfl, rfl⟩)
        | (go_at_call 47; refine HG.out.mono ?_; rintro e w' ⟨rfl, ⟨nd, rfl⟩⟩))
      first | go_end0 | ((try simp only [Exit.inBlock, Exit.then]); refine bodyPost_ret (results_none rfl _ _ _) rfl ?_)
      exact ⟨rfl, by rw [e1.out.1, e1.out.2]; exact drewN_set HP1.out nd⟩

set_option maxHeartbeats 1000000 in
set_option maxRecDepth 100000 in
theorem Later_calls {w : World} {base g : Nat} {ok : Nat → Prop} {B Wt : List Int} {fl : Bool} (h : Pg w base ok g B Wt fl) (hW : Wt.length ≤ 1000000000) :
    Calls Try.prog 91 #[.pointer (some ⟨g, 0, none⟩)] w fun e w' => e = .returned (.int .i64 (B.length : Int)) ∧ Pst base ok w w' g (laterB fl B) (laterW fl B Wt) fl := by
  have HC := Aside0.mk (done_calls h)
  have HP := Aside0.mk (Pst.refl h)
  have HW := Aside0.mk hW
  obtain ⟨v1, v2, hb, h1, h2, h3, h4, h5, h6⟩ := h
  obtain ⟨A1, c1, rfl⟩ := own_slice h3
  have C0 : w.cell? ⟨g, 0, none⟩ = some (.slice A1 B.length c1) := (blk_cell hb 0).trans rfl
  have HLT := Aside0.mk (blk_lt hb)
  clear hb h1 h2 h3 h4 h5 h6 hW
  cases ho : over fl B with
  | true =>
    have e1 := Aside0.mk (show laterB fl B = B ∧ laterW fl B Wt = Wt by simp [laterB, laterW, ho])
    rw [ho] at HC
    clear ho
    go_enter Try.func91, Try.ntmps91
    go_wp2_with (go_at_call 108; refine HC.out.mono ?_; rintro e w' ⟨rfl, rfl⟩)
    go_ret
    exact ⟨rfl, by rw [e1.out.1, e1.out.2]; exact HP.out⟩
  | false =>
    have HL2 : Aside0 (B.length ≤ 1048576) := Aside0.mk (by simp [over] at ho; omega)
    have e1 := Aside0.mk (show laterB fl B = B ++ [0, 0, 0, 0] ∧ laterW fl B Wt = Wt ++ [(B.length : Int)] by simp [laterB, laterW, ho])
    rw [ho] at HC
    clear ho
    obtain ⟨k, hk⟩ := big_4 0 (by omega) (by omega)
    rw [be4] at hk
    have HBG := Aside0.mk (fun W => foundryref04_Big.calls k 0 4 [0, 0, 0, 0] W hk)
    clear hk
    go_enter Try.func91, Try.ntmps91
    go_wp2_with (go_at_call 108; refine HC.out.mono ?_; rintro e w' ⟨rfl, rfl⟩)
    go_region_law (first
      | (go_simp; go_at_call 76; refine (HBG.out _).mono ?_; rintro e w2 ⟨vr, rfl, hR, hB⟩; obtain ⟨Ar, cr, rfl, hle, hC⟩ := Kd.R_reads hR; obtain ⟨ad, rfl, -⟩ := (C_reads hC).at_ (0 : Int) (by omega) (by simp); have HBB := Aside0.mk (below_then (B := w.heap.size) (w := w) (by repeat (first | exact Below.refl _ _ | apply below_drew1 | apply pw_below_drewN)) (by simp) hB); have HNW := Aside0.mk (news_of hC); have C0b := (hB.cell HLT.out).trans C0; clear hB hC hR)
      | (refine pg_step rfl (.tmp 16) (.tmp 17) rfl HP.out C0 rfl ad 4 cr [0, 0, 0, 0] rfl rfl HBB.out HNW.out (by omega) (by have := HL2.out; omega) ?_; intro gg cap w3 cc hP2 hc2 hf2; obtain ⟨x2, C1A, C1⟩ := cell_one hP2; have HP2 := Aside0.mk hP2; clear hP2))
    all_goals
      clear C0b C0
      go_wp2_with (at_builtin; refine pg_wait rfl (.tmp 25) (.tmp 27) rfl HP2.out C1A.out rfl (B.length : Int) (by simp [Act.eval]) (by have := HW.out; omega) ?_; intro A3 c3 w4 cc3 hP3 hc3 hf3; have HP3 := Aside0.mk hP3; clear hP3)
      go_ret
      exact ⟨rfl, by rw [e1.out.1, e1.out.2]; exact HP3.out⟩

set_option maxHeartbeats 1000000 in
set_option maxRecDepth 100000 in
theorem Pad_ok {w : World} {base g : Nat} {ok : Nat → Prop} {B Wt : List Int} {fl : Bool} (h : Pg w base ok g B Wt fl) (n : Nat) (ho : over fl B = false) (hn1 : 1 ≤ n) (hn2 : n ≤ 16) :
    Calls Try.prog 93 #[.pointer (some ⟨g, 0, none⟩), .int .i64 (n : Int)] w fun e w' => e = .returned (.tuple #[]) ∧ Pst base ok w w' g (B ++ List.replicate (padN B.length n) 0) Wt fl := by
  have HC := Aside0.mk (done_calls h)
  rw [ho] at HC
  have HP := Aside0.mk (Pst.refl h)
  have HL2 : Aside0 (B.length ≤ 1048576) := Aside0.mk (by simp [over] at ho; omega)
  have hz : ((n : Int) == 0) = false := by simp; omega
  clear h ho
  go_enter Try.func93, Try.ntmps93
  go_wp2_with (go_at_call 108; refine HC.out.mono ?_; rintro e w' ⟨rfl, rfl⟩)
  go_loopg [] 17 (fun k w1 => ∃ j : Nat, Aside0 (j + padN (B.length + j) n = padN B.length n ∧ padN (B.length + j) n < k ∧ j ≤ 16) ∧ Aside0 (Pst base ok w w1 g (B ++ List.replicate j 0) Wt fl))
  case atStart => exact ⟨0, ⟨by simp, by have := padN_lt (m := B.length) (n := n) (by omega); simp; omega, by omega⟩, ⟨by simpa using HP.out⟩⟩
  case round =>
    obtain ⟨j, HJ, HQ⟩ := hrel
    obtain ⟨B1, hB1⟩ : ∃ B1, B ++ List.replicate j 0 = B1 := ⟨_, rfl⟩
    rw [hB1] at HQ
    have HB1 := Aside0.mk (show B1 ++ [0] = B ++ List.replicate (j + 1) 0 by rw [← hB1, List.append_assoc, ← List.replicate_succ'])
    have HL1 := Aside0.mk (show B1.length = B.length + j by rw [← hB1]; simp)
    have HE := Aside0.mk hB1
    clear hB1
    obtain ⟨v1, v2, hb, h1, h2, h3, -⟩ := HQ.out.pg
    obtain ⟨A1, c1, rfl⟩ := own_slice h3
    have C0 : wr.cell? ⟨g, 0, none⟩ = some (.slice A1 B1.length c1) := (blk_cell hb 0).trans rfl
    clear hb h1 h2 h3
    by_cases hm : B1.length % n = 0
    · have hd : (((B1.length : Int) % (n : Int)) == 0) = true := by simp; omega
      have HF := Aside0.mk (show B1 = B ++ List.replicate (padN B.length n) 0 by
        have := HJ.out.1
        rw [← HL1.out, padN_zero (by omega) hm] at this
        rw [← HE.out, ← this]; simp)
      clear hm
      go_wp2
      first | go_end0 | ((try simp only [Exit.inBlock, Exit.then]); refine bodyPost_ret (results_none rfl _ _ _) rfl ?_)
      exact ⟨rfl, by rw [← HF.out]; exact HQ.out⟩
    · have hd : (((B1.length : Int) % (n : Int)) != 0) = true := by simp; omega
      have HS := Aside0.mk (show padN (B.length + j) n = padN (B.length + (j + 1)) n + 1 by
        rw [← HL1.out]
        have := padN_step (m := B1.length) (n := n) (by omega) hm
        rw [this, HL1.out, Nat.add_assoc])
      clear hm
      go_wp2_with (at_builtin; refine pg_row rfl (.tmp 27) (.tmp 28) rfl HQ.out C0 rfl (some ⟨wr.heap.size, 0, none⟩) 1 1 [0] rfl ((Below.refl _ _).alloc (Nat.le_refl _) _) (reads_block (w := wr.alloc (.cells #[.int .u8 0] 5)) (k := .u8) (ys := [0]) (t := 5) (heap_alloc_new wr _) (by simp)) (by have := HL1.out; have := HL2.out; have := HJ.out; omega) ?_; intro A' c' w2 cc hP2 hc2 hf2; have HP2 := Aside0.mk hP2; clear hP2 C0 HQ)
      go_roundg (gk - 1)
      case measure => have := HJ.out; omega
      case rel => exact ⟨j + 1, ⟨by have := HJ.out; have := HS.out; have := padN_lt (m := B.length) (n := n) (by omega); omega⟩, ⟨by rw [← HB1.out]; exact HP2.out⟩⟩

theorem Pad_calls {w : World} {base g : Nat} {ok : Nat → Prop} {B Wt : List Int} {fl : Bool} (h : Pg w base ok g B Wt fl) (n : Int) :
    Calls Try.prog 93 #[.pointer (some ⟨g, 0, none⟩), .int .i64 n] w fun e w' => e = .returned (.tuple #[]) ∧ Pst base ok w w' g (padB fl B n) Wt (padF fl B n) := by
  have HC := Aside0.mk (done_calls h)
  have HF := Aside0.mk (failed h true)
  have HP := Aside0.mk (Pst.refl h)
  obtain ⟨C2, F2⟩ := flag_cell h
  cases ho : over fl B with
  | true =>
    simp only [padB, padF, if_pos ho]
    rw [ho] at HC
    clear h ho
    go_enter Try.func93, Try.ntmps93
    go_wp2_with (go_at_call 108; refine HC.out.mono ?_; rintro e w' ⟨rfl, rfl⟩)
    first | go_end0 | ((try simp only [Exit.inBlock, Exit.then]); refine bodyPost_ret (results_none rfl _ _ _) rfl ?_)
    exact ⟨rfl, HP.out⟩
  | false =>
    have ho' : ¬ over fl B = true := by rw [ho]; simp
    rw [ho] at HC
    by_cases hn : n < 1 ∨ n > 16
    · simp only [padB, padF, if_neg ho', if_pos hn]
      clear ho ho' h
      rcases hn with hn | hn
      · go_enter Try.func93, Try.ntmps93
        go_wp2_with (go_at_call 108; refine HC.out.mono ?_; rintro e w' ⟨rfl, rfl⟩)
        first | go_end0 | ((try simp only [Exit.inBlock, Exit.then]); refine bodyPost_ret (results_none rfl _ _ _) rfl ?_)
        exact ⟨rfl, HF.out⟩
      · go_enter Try.func93, Try.ntmps93
        go_wp2_with (go_at_call 108; refine HC.out.mono ?_; rintro e w' ⟨rfl, rfl⟩)
        first | go_end0 | ((try simp only [Exit.inBlock, Exit.then]); refine bodyPost_ret (results_none rfl _ _ _) rfl ?_)
        exact ⟨rfl, HF.out⟩
    · simp only [padB, padF, if_neg ho', if_neg hn]
      obtain ⟨m, rfl⟩ := Int.eq_ofNat_of_zero_le (a := n) (by omega)
      exact Pad_ok h m ho (by omega) (by omega)
end Go.Proofs.Ytmppdgjnibamlaa.Rag
