/- put of octets.Page. -/
import Derived.Test.YtmppdgjnibamlaaPgB
namespace Go.Proofs.Ytmppdgjnibamlaa.Pag
open Go.RowKit Go.Proofs.YtmppdgjnibamlaaW.PrintWords
set_option linter.unusedVariables false
set_option linter.unusedSimpArgs false

/-- The n bytes of x, the most significant first. -/
def be (x : Int) (n : Nat) : List Int := (List.range n).map fun i => (x / 2 ^ (8 * (n - 1 - i))) % 256
/-- What put makes of a page's bytes, and whether it has failed. -/
def putB (fl : Bool) (B : List Int) (x : Int) (n : Nat) : List Int := if over fl B = true then B else if x < -(2 ^ (8 * n - 1)) ∨ x ≥ 2 ^ (8 * n) then B else B ++ be x n
def putF (fl : Bool) (B : List Int) (x : Int) (n : Nat) : Bool := if over fl B = true then fl else if x < -(2 ^ (8 * n - 1)) ∨ x ≥ 2 ^ (8 * n) then true else fl

set_option maxHeartbeats 400000 in
theorem put_over {w : World} {base g : Nat} {ok : Nat → Prop} {B Wt : List Int} {fl : Bool} (h : Pg w base ok g B Wt fl) (x n : Int) (ho : over fl B = true) :
    Calls Try.prog 59 #[.pointer (some ⟨g, 0, none⟩), .int .i64 x, .int .i64 n] w fun e w' => e = .returned (.tuple #[]) ∧ Pst base ok w w' g B Wt fl := by
  have hP := Pst.refl h
  have HC := Aside0.mk (over_calls h)
  clear h
  go_enter Try.func59, Try.ntmps59
  go_wp2_with (go_at_call 60; refine HC.out.mono ?_; rintro e w' ⟨rfl, rfl⟩)
  first | go_end0 | ((try simp only [Exit.inBlock, Exit.then]); refine bodyPost_ret (results_none rfl _ _ _) rfl ?_)
  exact ⟨rfl, hP⟩

theorem app_now {w w1 W w2 : World} {base g : Nat} {ok : Nat → Prop} {B Wt ys : List Int} {fl : Bool} {v1 v' : Value}
    (h : Pst base ok w w1 g B Wt fl) (hc : w1.cell? ⟨g, 0, none⟩ = some v1)
    (hw : Below w1.heap.size w1 W) (hown : w2.ownsRow base 5 1 v' (B ++ ys).length (nums .u8 (B ++ ys))) (hg : W.grownBy w2 v1.ownBlock)
    (hat : ∀ k, v'.ownBlock = some k → v1.ownBlock = some k ∨ w1.heap.size ≤ k) :
    Pst base ok w (w2.setCell ⟨g, 0, none⟩ v') g (B ++ ys) Wt fl ∧ (∃ c, w2.cell? ⟨g, 0, none⟩ = some c) ∧ w2.frozen? ⟨g, 0, none⟩ = false := by
  obtain ⟨u1, v2, hb, h1, h2, h3, h4, h5, h6⟩ := h.pg
  have e : u1 = v1 := by
    have := (blk_cell hb 0).symm.trans hc
    simpa using this
  subst e
  have R := app_done hb h1 h2 h3 h4 h5 h6 hw hown hg hat
  exact ⟨h.trans R.1, R.2⟩

/-- append to a page's bytes, as one step of a region that draws its order. -/
theorem pg_step {ops : Array Oper} {o : Oper} {a : Act} {K : Act → World → Prop} {Q : Exit → Act → World → Prop} {E : Prop} {w w1 W : World} {base g : Nat} {ok : Nat → Prop} {B Wt : List Int} {fl : Bool} {v1 : Value}
    (hgd : o.guard = none) (s x : Operand) (ho : o.op = .call { callee := .builtin .append, args := #[s, x], argTypes := #[25, 25] })
    (hP : Pst base ok w w1 g B Wt fl) (hc : w1.cell? ⟨g, 0, none⟩ = some v1) (hs : a.eval s = v1)
    (ad : Addr) (m c : Nat) (ys : List Int) (hx : a.eval x = .slice (some ad) m c) (hl : ys.length = m) (hw : Below w1.heap.size w1 W)
    (hnews : ∀ j u, (nums .u8 ys)[j]? = some u → W.cell? (ad.add j) = some u) (hm : 0 < m) (hlen : B.length + m ≤ 100000000000)
    (h : ∀ gg cap w2 cc, Pst base ok w (w2.setCell ⟨g, 0, none⟩ (.slice (some ⟨gg, 0, none⟩) (B.length + m) cap)) g (B ++ ys) Wt fl → w2.cell? ⟨g, 0, none⟩ = some cc → w2.frozen? ⟨g, 0, none⟩ = false →
      K (a.put o.dst (.slice (some ⟨gg, 0, none⟩) (B.length + m) cap)) w2) :
    if Region.wanted o (yielded ops a.tmps) = true then Oper.wp Try.prog o a W K Q else E := by
  obtain ⟨i0, hi, hz0, hz1, hz2⟩ := info_parts infoB
  obtain ⟨u1, v2, hb, h1, h2, h3, h4, h5, h6⟩ := hP.pg
  have e : u1 = v1 := by
    have := (blk_cell hb 0).symm.trans hc
    simpa using this
  subst e
  have hbase : base ≤ w1.heap.size := Nat.le_trans h1 (Nat.le_of_lt (blk_lt hb))
  have h3W : W.ownsRow base 5 1 u1 B.length (nums .u8 B) := own_move h3 fun k e => hw.block k (own_lt h3 k e)
  refine step_append_lies W hgd s x 25 ho base 5 i0 (.int .u8 0) 1 1 Try.underlying25 hi hz0 hz1 hz2 rfl (by decide) u1 B.length (nums .u8 B) hs h3W ad m c (nums .u8 ys) hx (by simp [nums, hl]) hnews
    (by intro u hu; simp only [nums, List.mem_map] at hu; obtain ⟨q, _, rfl⟩ := hu; rfl) hm (by simp only [maxLen]; omega) (by omega) (Nat.le_trans hbase hw.size) W.heap.size rfl ?_
  intro gg cap w2 hown hgrow hat hlt
  have hat' : ∀ k, (Value.slice (some ⟨gg, 0, none⟩) (B.length + m) cap).ownBlock = some k → u1.ownBlock = some k ∨ w1.heap.size ≤ k := by
    intro k hk
    have : gg = k := by simpa [Value.ownBlock] using hk
    subst this
    exact hat.imp id fun e => by rw [e]; exact hw.size
  have R := app_now hP hc hw (ys := ys) (v' := .slice (some ⟨gg, 0, none⟩) (B.length + m) cap) (by rw [List.length_append, hl, nums_append]; exact hown) hgrow hat'
  obtain ⟨cc, hcc⟩ := R.2.1
  exact h gg cap w2 cc R.1 hcc R.2.2
end Go.Proofs.Ytmppdgjnibamlaa.Pag
