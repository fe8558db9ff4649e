/- The reference's page: put, where the number fits. -/
import Derived.Test.YtmppdgjnibamlaaRgA
import Derived.Test.YtmppdgjnibamlaaPRfx1
import Derived.Deep.RegionLaw
import Derived.StillTailTactics
namespace Go.Proofs.Ytmppdgjnibamlaa.Rag
open Go.RowKit Go.Proofs.YtmppdgjnibamlaaW.PrintWords Go.Proofs.Ytmppdgjnibamlaa.PRf
open Go.Proofs.Ytmppdgjnibamlaa.Pag (over allB allE putB putF putsB tagB tagF laterB laterW padB padF padN good be C_reads)
set_option linter.unusedVariables false
set_option linter.unusedSimpArgs false

theorem news_of {k : IntKind} {w : World} {ad : Addr} {ys : List Int} (h : Kd.C (Kd.int k) w (some ad) ys.length ys) : ∀ j u, (nums k ys)[j]? = some u → w.cell? (ad.add j) = some u := fun j u hu => by
  have hj : j < ys.length := by have := (List.getElem?_eq_some_iff.1 hu).1; simpa [nums] using this
  obtain ⟨ad', e, hc⟩ := (C_reads h).at_ (j : Int) (by omega) (by omega)
  injection e with e
  subst e
  rw [Int.toNat_natCast] at hc
  rw [hc]
  rw [← hu]
  simp [nums, rd, hj]
set_option maxHeartbeats 1000000 in
set_option maxRecDepth 100000 in
theorem rput_ok {w : World} {base g : Nat} {ok : Nat → Prop} {B Wt : List Int} {fl : Bool} (h : Pg w base ok g B Wt fl) (x n lo hi : Int) (ho : over fl B = false) (h0 : 0 ≤ x) (h1 : lo ≤ x) (h2 : x ≤ hi) (k : Nat) (ys : List Int) (hbig : foundryref04_Big.f k x n = some ys) (hpos : 0 < ys.length) (hsm : ys.length ≤ 16) :
    Calls Try.prog 107 #[.pointer (some ⟨g, 0, none⟩), .int .i64 x, .int .i64 n, .int .i64 lo, .int .i64 hi] w fun e w' => e = .returned (.tuple #[]) ∧ Pst base ok w w' g (B ++ ys) Wt fl := by
  have HP := Aside0.mk (Pst.refl h)
  have HC := Aside0.mk (done_calls h)
  rw [ho] at HC
  have HL : Aside0 (B.length ≤ 1048576) := Aside0.mk (by simp [over] at ho; omega)
  have HBG := Aside0.mk (fun W => foundryref04_Big.calls k x n ys W hbig)
  obtain ⟨v1, v2, hb, -⟩ := h
  have C0 : w.cell? ⟨g, 0, none⟩ = some v1 := (blk_cell hb 0).trans rfl
  have HLT := Aside0.mk (blk_lt hb)
  have HPS := Aside0.mk hpos
  clear hb ho hbig
  go_enter Try.func107, Try.ntmps107
  go_wp2_with (go_at_call 108; refine HC.out.mono ?_; rintro e w' ⟨rfl, rfl⟩)
  go_region_law (first
    | (go_simp; go_at_call 76; refine (HBG.out _).mono ?_; rintro e w2 ⟨vr, rfl, hR, hB⟩; obtain ⟨Ar, cr, rfl, hle, hC⟩ := Kd.R_reads hR; obtain ⟨ad, rfl, -⟩ := (C_reads hC).at_ (0 : Int) (by omega) (by have := HPS.out; omega); have HBB := Aside0.mk (below_then (B := w.heap.size) (w := w) (by repeat (first | exact Below.refl _ _ | apply below_drew1 | apply pw_below_drewN)) (by simp) hB); have HNW := Aside0.mk (news_of hC); have C0b := (hB.cell HLT.out).trans C0; clear hB hC hR)
    | (refine pg_step rfl (.tmp 33) (.tmp 36) rfl HP.out C0 rfl ad ys.length cr ys rfl rfl HBB.out HNW.out HPS.out (by have := HL.out; have := hsm; omega) ?_; intro gg cap w3 cc hP2 hc2 hf2; have HP2 := Aside0.mk hP2; clear hP2))
  all_goals
    go_wp2
    first | go_end0 | ((try simp only [Exit.inBlock, Exit.then]); refine bodyPost_ret (results_none rfl _ _ _) rfl ?_)
    exact ⟨rfl, HP2.out⟩
end Go.Proofs.Ytmppdgjnibamlaa.Rag
