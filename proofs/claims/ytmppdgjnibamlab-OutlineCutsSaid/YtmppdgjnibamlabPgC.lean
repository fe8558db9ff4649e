/- The heap predicate of a page (octets.Page) that the call itself has made, and its movers. No condition. -/
import Derived.Test.YtmppdgjnibamlabProg
import Derived.Test.YtmppdgjnibamlabWMore
import Derived.Test.YtmppdgjnibamlabWKept
import Derived.Deep.RegionLaw
namespace Go.Proofs.Ytmppdgjnibamlab.Pag
open Go.RowKit Go.Proofs.YtmppdgjnibamlabW.PrintWords
set_option linter.unusedVariables false
set_option linter.unusedSimpArgs false

/-- Block g is a page of bytes B, waiting places Wt, failed or not; all its blocks are ok, and made from base on. -/
def Pg (w : World) (base : Nat) (ok : Nat → Prop) (g : Nat) (B Wt : List Int) (fl : Bool) : Prop :=
  ∃ v1 v2, w.heap[g]? = some (.cells #[v1, v2, .bool fl] 79 (0, 0)) ∧ base ≤ g ∧ ok g ∧
    w.ownsRow base 5 1 v1 B.length (nums .u8 B) ∧ w.ownsRow base 3 1 v2 Wt.length (nums .i64 Wt) ∧
    (∀ k, v1.ownBlock = some k → ok k) ∧ (∀ k, v2.ownBlock = some k → ok k)

section
variable {w w1 : World} {base g : Nat} {ok ok' : Nat → Prop} {B Wt : List Int} {fl : Bool}

theorem Pg.lt (h : Pg w base ok g B Wt fl) : g < w.heap.size := by
  obtain ⟨v1, v2, hb, _⟩ := h
  exact (Array.getElem?_eq_some_iff.1 hb).1
theorem Pg.ge (h : Pg w base ok g B Wt fl) : base ≤ g := by
  obtain ⟨v1, v2, _, h1, _⟩ := h
  exact h1
theorem Pg.base_le (h : Pg w base ok g B Wt fl) : base ≤ w.heap.size := by
  have := h.lt; have := h.ge; omega
theorem Pg.mono (h : Pg w base ok g B Wt fl) (hk : ∀ k, ok k → ok' k) : Pg w base ok' g B Wt fl := by
  obtain ⟨v1, v2, hb, h1, h2, h3, h4, h5, h6⟩ := h
  exact ⟨v1, v2, hb, h1, hk _ h2, h3, h4, fun k e => hk k (h5 k e), fun k e => hk k (h6 k e)⟩
/-- Its blocks lie in the world. -/
theorem Pg.bound (h : Pg w base ok g B Wt fl) : Pg w base (fun k => ok k ∧ base ≤ k ∧ k < w.heap.size) g B Wt fl := by
  have hl := h.lt
  obtain ⟨v1, v2, hb, h1, h2, h3, h4, h5, h6⟩ := h
  exact ⟨v1, v2, hb, h1, ⟨h2, h1, hl⟩, h3, h4, fun k e => ⟨h5 k e, own_base h3 k e, own_lt h3 k e⟩, fun k e => ⟨h6 k e, own_base h4 k e, own_lt h4 k e⟩⟩
/-- What is ok stays as it is. -/
theorem Pg.move (h : Pg w base ok g B Wt fl) (hm : ∀ k, ok k → k < w.heap.size → w1.heap[k]? = w.heap[k]?) : Pg w1 base ok g B Wt fl := by
  have hl := h.lt
  obtain ⟨v1, v2, hb, h1, h2, h3, h4, h5, h6⟩ := h
  exact ⟨v1, v2, (hm g h2 hl).trans hb, h1, h2, own_move h3 (fun k e => hm k (h5 k e) (own_lt h3 k e)), own_move h4 (fun k e => hm k (h6 k e) (own_lt h4 k e)), h5, h6⟩
theorem Pg.grown (h : Pg w base ok g B Wt fl) {row : Option Nat} (hg : w.grownBy w1 row) (hr : ∀ k, ok k → some k ≠ row) : Pg w1 base ok g B Wt fl :=
  h.move fun k hk hl => hg.block k hl (hr k hk)
theorem Pg.below (h : Pg w base ok g B Wt fl) (hb : Below w.heap.size w w1) : Pg w1 base ok g B Wt fl := h.move fun k _ hl => hb.block k hl
theorem Pg.kept (h : Pg w base ok g B Wt fl) {S : Nat → Prop} (hk : Kept w w1 S) (hn : ∀ k, ok k → ¬ S k) : Pg w1 base ok g B Wt fl := h.move fun k h1 hl => hk.2 k hl (hn k h1)
theorem Pg.alloc (h : Pg w base ok g B Wt fl) (o : Obj) : Pg (w.alloc o) base ok g B Wt fl := h.below (below_alloc (Below.refl _ _) o)
theorem Pg.drewN (h : Pg w base ok g B Wt fl) (n : Nat) : Pg (w.drewN n) base ok g B Wt fl := h
theorem Pg.drew (h : Pg w base ok g B Wt fl) : Pg w.drew base ok g B Wt fl := h
end

/-- What a call on a page leaves: the page, turned; all else that was there as it was. -/
structure Pst (base : Nat) (ok : Nat → Prop) (w w' : World) (g : Nat) (B Wt : List Int) (fl : Bool) : Prop where
  pg : Pg w' base (fun k => ok k ∨ w.heap.size ≤ k) g B Wt fl
  kept : Kept w w' ok
  below : Below base w w'

section
variable {w w1 w2 : World} {base g : Nat} {ok : Nat → Prop} {B Wt B1 Wt1 B2 Wt2 : List Int} {fl fl1 fl2 : Bool}
theorem Pst.refl (h : Pg w base ok g B Wt fl) : Pst base ok w w g B Wt fl := ⟨h.mono fun _ hk => .inl hk, Kept.refl _ _, Below.refl _ _⟩
theorem Pst.of_drewN (h : Pg w base ok g B Wt fl) (n : Nat) : Pst base ok w (w.drewN n) g B Wt fl := ⟨(h.mono fun _ hk => .inl hk).drewN n, (Kept.refl _ _).drewN n, pw_below_drewN (Below.refl _ _) n⟩
/-- Two calls, one behind the other. -/
theorem Pst.trans (h : Pst base ok w w1 g B1 Wt1 fl1) (k : Pst base (fun k => ok k ∨ w.heap.size ≤ k) w1 w2 g B2 Wt2 fl2) : Pst base ok w w2 g B2 Wt2 fl2 :=
  ⟨k.pg.mono fun i hi => by
      rcases hi with hi | hi
      · exact hi
      · exact .inr (Nat.le_trans h.kept.1 hi),
    h.kept.then_ k.kept (fun i hi => hi), h.below.trans k.below⟩
end
end Go.Proofs.Ytmppdgjnibamlab.Pag

/-! Contracts of over, fail, Here of octets.Page, the page made by the call itself. No condition. -/
namespace Go.Proofs.Ytmppdgjnibamlab.Pag
open Go.RowKit Go.Proofs.YtmppdgjnibamlabW.PrintWords
set_option linter.unusedVariables false
set_option linter.unusedSimpArgs false

def over (fl : Bool) (B : List Int) : Bool := fl || decide (1048576 < B.length)

set_option maxHeartbeats 400000 in
theorem over_calls {w : World} {base g : Nat} {ok : Nat → Prop} {B Wt : List Int} {fl : Bool} (h : Pg w base ok g B Wt fl) :
    Calls Try.prog 112 #[.pointer (some ⟨g, 0, none⟩)] w fun e w' => e = .returned (.bool (over fl B)) ∧ w = w' := by
  obtain ⟨v1, v2, hb, h1, h2, h3, h4, h5, h6⟩ := h
  obtain ⟨A1, c1, rfl⟩ := own_slice h3
  have C0 : w.cell? ⟨g, 0, none⟩ = some (.slice A1 B.length c1) := (blk_cell hb 0).trans rfl
  have C2 : w.cell? ⟨g, 2, none⟩ = some (.bool fl) := (blk_cell hb 2).trans rfl
  clear hb h1 h2 h3 h4 h5 h6
  cases fl with
  | true =>
    go_enter Try.func112, Try.ntmps112
    go_wp2
    go_ret
    exact ⟨by simp [over], rfl⟩
  | false =>
    go_enter Try.func112, Try.ntmps112
    go_wp2
    go_ret
    exact ⟨by simp [over]; omega, rfl⟩

/-- 'fail': the page has failed. -/
theorem fail_calls {w : World} {base g : Nat} {ok : Nat → Prop} {B Wt : List Int} {fl : Bool} (h : Pg w base ok g B Wt fl) :
    Calls Try.prog 113 #[.pointer (some ⟨g, 0, none⟩)] w fun e w' => e = .returned (.tuple #[]) ∧ Pst base ok w w' g B Wt true := by
  have hP : Pst base ok w (w.setCell ⟨g, 2, none⟩ (.bool true)) g B Wt true := by
    obtain ⟨v1, v2, hb, h1, h2, h3, h4, h5, h6⟩ := h
    have hne1 : v1.ownBlock ≠ some g := fun e => by
      obtain ⟨cs, hc⟩ := own_typed h3 g e
      rw [hb] at hc; simp at hc
    have hne2 : v2.ownBlock ≠ some g := fun e => by
      obtain ⟨cs, hc⟩ := own_typed h4 g e
      rw [hb] at hc; simp at hc
    refine ⟨⟨v1, v2, by simpa using blk_set hb 2 (.bool true), h1, .inl h2, ?_, ?_, fun k e => .inl (h5 k e), fun k e => .inl (h6 k e)⟩, (Kept.refl _ _).setCell (.inl h2) _, (Below.refl _ _).setCell h1 _⟩
    · exact own_move h3 fun k e => Below.heap_setCell _ _ _ _ (fun e2 => hne1 (by rw [e]; simp [e2]))
    · exact own_move h4 fun k e => Below.heap_setCell _ _ _ _ (fun e2 => hne2 (by rw [e]; simp [e2]))
  obtain ⟨v1, v2, hb, h1, h2, h3, h4, h5, h6⟩ := h
  have C2 : w.cell? ⟨g, 2, none⟩ = some (.bool fl) := (blk_cell hb 2).trans rfl
  have F2 : w.frozen? ⟨g, 2, none⟩ = false := by simp [World.frozen?, hb]
  clear hb h1 h2 h3 h4 h5 h6
  go_enter Try.func113, Try.ntmps113
  go_wp2
  go_end0
  exact ⟨rfl, hP⟩

end Go.Proofs.Ytmppdgjnibamlab.Pag

/-! put of octets.Page. -/
namespace Go.Proofs.Ytmppdgjnibamlab.Pag
open Go.RowKit Go.Proofs.YtmppdgjnibamlabW.PrintWords
set_option linter.unusedVariables false
set_option linter.unusedSimpArgs false

theorem infoB : (Try.prog.info? 5).map (fun i => (i.zero, i.size, i.bytes)) = some (some (.int .u8 0), 1, 1) := by kernel_rfl

/-- An append to the page's bytes, and the store into the page: what it leaves. -/
theorem app_done {w W w2 : World} {base g : Nat} {ok : Nat → Prop} {B Wt ys : List Int} {fl : Bool} {v1 v2 v' : Value}
    (hb : w.heap[g]? = some (.cells #[v1, v2, .bool fl] 79 (0, 0))) (h1 : base ≤ g) (h2 : ok g)
    (h3 : w.ownsRow base 5 1 v1 B.length (nums .u8 B)) (h4 : w.ownsRow base 3 1 v2 Wt.length (nums .i64 Wt))
    (h5 : ∀ k, v1.ownBlock = some k → ok k) (h6 : ∀ k, v2.ownBlock = some k → ok k)
    (hw : Below w.heap.size w W) (hown : w2.ownsRow base 5 1 v' (B ++ ys).length (nums .u8 (B ++ ys))) (hg : W.grownBy w2 v1.ownBlock)
    (hat : ∀ k, v'.ownBlock = some k → v1.ownBlock = some k ∨ w.heap.size ≤ k) :
    Pst base ok w (w2.setCell ⟨g, 0, none⟩ v') g (B ++ ys) Wt fl ∧ (∃ c, w2.cell? ⟨g, 0, none⟩ = some c) ∧ w2.frozen? ⟨g, 0, none⟩ = false := by
  have hbase : base ≤ w.heap.size := Nat.le_trans h1 (Nat.le_of_lt (blk_lt hb))
  have hn1 : some g ≠ v1.ownBlock := fun e => by
    obtain ⟨cs, hc⟩ := own_typed h3 g e.symm
    rw [hb] at hc; simp at hc
  have hn2 : v2.ownBlock ≠ some g := fun e => by
    obtain ⟨cs, hc⟩ := own_typed h4 g e
    rw [hb] at hc; simp at hc
  have hd : v2.ownBlock = none ∨ v2.ownBlock ≠ v1.ownBlock := own_type_ne h4 h3 (by decide)
  have hbW := (hw.block g (blk_lt hb)).trans hb
  have hb2 := blk_grown hbW hg hn1
  have hK : Kept w W ok := Kept.of_below hw _
  have hK2 : Kept w w2 ok := hK.of_grown hg fun k e => .inl (h5 k e)
  have hn3 : v'.ownBlock ≠ some g := fun e => by
    obtain ⟨cs, hc⟩ := own_typed hown g e
    rw [hb2] at hc; simp at hc
  have h4W : W.ownsRow base 3 1 v2 Wt.length (nums .i64 Wt) := own_move h4 fun k e => hw.block k (own_lt h4 k e)
  have h42 := own_other h4W hg hd
  refine ⟨⟨⟨v', v2, by simpa using blk_set hb2 0 v', h1, .inl h2, ?_, ?_, fun k e => (hat k e).imp (h5 k) id, fun k e => .inl (h6 k e)⟩, hK2.setCell (.inl h2) _,
    ((hw.mono hbase).grown hg (Nat.le_trans hbase hw.size) (own_base h3)).setCell h1 _⟩, ⟨_, (blk_cell hb2 0).trans rfl⟩, blk_frozen hb2 0⟩
  · exact own_move hown fun k e => Below.heap_setCell _ _ _ _ (fun e2 => hn3 (by rw [e]; simp [e2]))
  · exact own_move h42 fun k e => Below.heap_setCell _ _ _ _ (fun e2 => hn2 (by rw [e]; simp [e2]))
end Go.Proofs.Ytmppdgjnibamlab.Pag

/-! put of octets.Page. -/
namespace Go.Proofs.Ytmppdgjnibamlab.Pag
open Go.RowKit Go.Proofs.YtmppdgjnibamlabW.PrintWords
set_option linter.unusedVariables false
set_option linter.unusedSimpArgs false

/-- The n bytes of x, the most significant first. -/
def be (x : Int) (n : Nat) : List Int := (List.range n).map fun i => (x / 2 ^ (8 * (n - 1 - i))) % 256
/-- What put makes of a page's bytes, and whether it has failed. -/
def putB (fl : Bool) (B : List Int) (x : Int) (n : Nat) : List Int := if over fl B = true then B else if x < -(2 ^ (8 * n - 1)) ∨ x ≥ 2 ^ (8 * n) then B else B ++ be x n
def putF (fl : Bool) (B : List Int) (x : Int) (n : Nat) : Bool := if over fl B = true then fl else if x < -(2 ^ (8 * n - 1)) ∨ x ≥ 2 ^ (8 * n) then true else fl

set_option maxHeartbeats 400000 in
theorem put_over {w : World} {base g : Nat} {ok : Nat → Prop} {B Wt : List Int} {fl : Bool} (h : Pg w base ok g B Wt fl) (x n : Int) (ho : over fl B = true) :
    Calls Try.prog 96 #[.pointer (some ⟨g, 0, none⟩), .int .i64 x, .int .i64 n] w fun e w' => e = .returned (.tuple #[]) ∧ Pst base ok w w' g B Wt fl := by
  have hP := Pst.refl h
  have HC := Aside0.mk (over_calls h)
  clear h
  go_enter Try.func96, Try.ntmps96
  go_wp2_with (go_at_call 112; refine HC.out.mono ?_; rintro e w' ⟨rfl, rfl⟩)
  first | go_end0 | ((try simp only [Exit.inBlock, Exit.then]); refine bodyPost_ret (results_none rfl _ _ _) rfl ?_)
  exact ⟨rfl, hP⟩

theorem app_now {w w1 W w2 : World} {base g : Nat} {ok : Nat → Prop} {B Wt ys : List Int} {fl : Bool} {v1 v' : Value}
    (h : Pst base ok w w1 g B Wt fl) (hc : w1.cell? ⟨g, 0, none⟩ = some v1)
    (hw : Below w1.heap.size w1 W) (hown : w2.ownsRow base 5 1 v' (B ++ ys).length (nums .u8 (B ++ ys))) (hg : W.grownBy w2 v1.ownBlock)
    (hat : ∀ k, v'.ownBlock = some k → v1.ownBlock = some k ∨ w1.heap.size ≤ k) :
    Pst base ok w (w2.setCell ⟨g, 0, none⟩ v') g (B ++ ys) Wt fl ∧ (∃ c, w2.cell? ⟨g, 0, none⟩ = some c) ∧ w2.frozen? ⟨g, 0, none⟩ = false := by
  obtain ⟨u1, v2, hb, h1, h2, h3, h4, h5, h6⟩ := h.pg
  have e : u1 = v1 := by
    have := (blk_cell hb 0).symm.trans hc
    simpa using this
  subst e
  have R := app_done hb h1 h2 h3 h4 h5 h6 hw hown hg hat
  exact ⟨h.trans R.1, R.2⟩

/-- append to a page's bytes, as one step of a region that draws its order. -/
theorem pg_step {ops : Array Oper} {o : Oper} {a : Act} {K : Act → World → Prop} {Q : Exit → Act → World → Prop} {E : Prop} {w w1 W : World} {base g : Nat} {ok : Nat → Prop} {B Wt : List Int} {fl : Bool} {v1 : Value}
    (hgd : o.guard = none) (s x : Operand) (ho : o.op = .call { callee := .builtin .append, args := #[s, x], argTypes := #[26, 26] })
    (hP : Pst base ok w w1 g B Wt fl) (hc : w1.cell? ⟨g, 0, none⟩ = some v1) (hs : a.eval s = v1)
    (ad : Addr) (m c : Nat) (ys : List Int) (hx : a.eval x = .slice (some ad) m c) (hl : ys.length = m) (hw : Below w1.heap.size w1 W)
    (hnews : ∀ j u, (nums .u8 ys)[j]? = some u → W.cell? (ad.add j) = some u) (hm : 0 < m) (hlen : B.length + m ≤ 100000000000)
    (h : ∀ gg cap w2 cc, Pst base ok w (w2.setCell ⟨g, 0, none⟩ (.slice (some ⟨gg, 0, none⟩) (B.length + m) cap)) g (B ++ ys) Wt fl → w2.cell? ⟨g, 0, none⟩ = some cc → w2.frozen? ⟨g, 0, none⟩ = false →
      K (a.put o.dst (.slice (some ⟨gg, 0, none⟩) (B.length + m) cap)) w2) :
    if Region.wanted o (yielded ops a.tmps) = true then Oper.wp Try.prog o a W K Q else E := by
  obtain ⟨i0, hi, hz0, hz1, hz2⟩ := info_parts infoB
  obtain ⟨u1, v2, hb, h1, h2, h3, h4, h5, h6⟩ := hP.pg
  have e : u1 = v1 := by
    have := (blk_cell hb 0).symm.trans hc
    simpa using this
  subst e
  have hbase : base ≤ w1.heap.size := Nat.le_trans h1 (Nat.le_of_lt (blk_lt hb))
  have h3W : W.ownsRow base 5 1 u1 B.length (nums .u8 B) := own_move h3 fun k e => hw.block k (own_lt h3 k e)
  refine step_append_lies W hgd s x 26 ho base 5 i0 (.int .u8 0) 1 1 Try.underlying26 hi hz0 hz1 hz2 rfl (by decide) u1 B.length (nums .u8 B) hs h3W ad m c (nums .u8 ys) hx (by simp [nums, hl]) hnews
    (by intro u hu; simp only [nums, List.mem_map] at hu; obtain ⟨q, _, rfl⟩ := hu; rfl) hm (by simp only [maxLen]; omega) (by omega) (Nat.le_trans hbase hw.size) W.heap.size rfl ?_
  intro gg cap w2 hown hgrow hat hlt
  have hat' : ∀ k, (Value.slice (some ⟨gg, 0, none⟩) (B.length + m) cap).ownBlock = some k → u1.ownBlock = some k ∨ w1.heap.size ≤ k := by
    intro k hk
    have : gg = k := by simpa [Value.ownBlock] using hk
    subst this
    exact hat.imp id fun e => by rw [e]; exact hw.size
  have R := app_now hP hc hw (ys := ys) (v' := .slice (some ⟨gg, 0, none⟩) (B.length + m) cap) (by rw [List.length_append, hl, nums_append]; exact hown) hgrow hat'
  obtain ⟨cc, hcc⟩ := R.2.1
  exact h gg cap w2 cc R.1 hcc R.2.2
end Go.Proofs.Ytmppdgjnibamlab.Pag
